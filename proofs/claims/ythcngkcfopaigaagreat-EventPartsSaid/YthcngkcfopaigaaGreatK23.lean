/- The chapter's example: what its members are; the walk of the statements' function fixed.
The walk of the statements' function fixed.
EventMoved: the plain law, and the walk. -/
import Derived.Test.YthcngkcfopaigaaGreatK22
namespace Go.Proofs.YthcngkcfopaigaaGreat
open Go.RowKit
def r0 : RuleV := ⟨1, 1, 0, -1, [], [], [], [], 0⟩
def e0 : EventV := ⟨600, 30, false, true, r0, [], [], [(2040, 2040, 0)]⟩
theorem raw_none (base l : Int) : utcRaw base [] l = l - base := by
  rw [raw_in (base := base) (ts := []) (l := l) (n := 0) (Nat.zero_le _) (by simp [zin, nb]) (fun j hj => absurd hj (Nat.not_lt_zero _))]
  simp [added]
theorem zmay_none {base : Int} (h1 : -900 ≤ base) (h2 : base ≤ 900) : zmay base [] = true := by
  rw [zmay_yes h1 h2 (by simp)]; rfl
theorem utcOk_none {base l : Int} (h1 : -900 ≤ base) (h2 : base ≤ 900) (h3 : 0 ≤ l - base) (h4 : l - base ≤ 158310720) : utcOk base [] l = true := by
  rw [utcOk_yes (zmay_none h1 h2) (by omega) (by omega), raw_none]
  simp; omega
theorem mspan_none {base l long f t : Int} (h1 : -900 ≤ base) (h2 : base ≤ 900) (h3 : 0 ≤ l - base) (h4 : l - base ≤ 158310720) : mspan base [] l long f t = if long ≠ 0 ∧ l - base < t ∧ f < l - base + long then [(l - base, l - base + long)] else [] := by
  unfold mspan; rw [utcOk_none h1 h2 h3 h4, raw_none]; simp
theorem ssort_one (x : Int × Int) : ssort [x] = [x] := by simp [ssort]
theorem rmay_r0 : rmay r0 = true := by decide
theorem good_r0 (s n : Int) : good r0 s n = true := by
  unfold good rright rusual; simp [r0]
theorem allTimes_r0 {x : Int} : x ∈ allTimes r0 600 ↔ ∃ n : Int, 0 ≤ n ∧ n < 109938 ∧ x = n * 1440 + 600 := by
  unfold allTimes
  rw [if_pos ⟨rmay_r0, by omega, by omega⟩]
  have hc : ∀ l : List Int, cut r0 l = l := by intro l; unfold cut; simp [r0]
  unfold timesFrom
  rw [hc]
  simp only [tms, List.mem_map, occ, mem_daysIn, sel_iff]
  have hk : ∀ l : List Int, kept r0 l = l := by intro l; unfold kept; simp [r0]
  constructor
  · rintro ⟨n, ⟨h1, h2, _⟩, rfl⟩
    exact ⟨n, h1, h2, by omega⟩
  · rintro ⟨n, h1, h2, rfl⟩
    refine ⟨n, ⟨h1, h2, by omega, ?_, ?_⟩, by omega⟩
    · show pnum r0 _ n % 1 = 0; omega
    · rw [hk, mem_plist (by omega) (by omega)]
      exact ⟨h1, h2, rfl, good_r0 _ _⟩
theorem emay_e0 : emay e0 = true := by
  have h1 : rmay e0.rule = true := rmay_r0
  unfold emay
  rw [h1]
  decide
theorem ptimes_e0 : ptimes e0 (0 - 30 - 1800) (4320 + 1800) = [600, 3480, 4920] := by
  apply sorted_ext
  · exact daysIn_sorted _ _ _
  · decide
  intro x
  simp only [ptimes, mem_daysIn, etime, etime0, chgd, e0, if_true, Bool.and_eq_true, Bool.not_eq_true', Bool.or_eq_true, decide_eq_true_eq, allTimes_r0, List.mem_cons, List.not_mem_nil, or_false, ats, List.map_cons, List.map_nil, Bool.true_and]
  have h1 : has [] x = false := rfl
  have h2 : has [2040] x = decide (2040 = x) := by simp [has]
  rw [h1, h2]
  simp only [Bool.false_eq_true, false_or, true_and, decide_eq_false_iff_not]
  constructor
  · rintro ⟨a, b, ⟨n, c, d, rfl⟩, f⟩; omega
  · rintro (rfl | rfl | rfl)
    · exact ⟨by omega, by omega, ⟨0, by omega, by omega, by omega⟩, by omega⟩
    · exact ⟨by omega, by omega, ⟨2, by omega, by omega, by omega⟩, by omega⟩
    · exact ⟨by omega, by omega, ⟨3, by omega, by omega, by omega⟩, by omega⟩
theorem members_e0 : emembers 0 [] e0 0 4320 = [(600, 630), (3480, 3510)] := by
  have hmo : mout 0 [] e0 0 4320 = false := by
    unfold mout; rw [emay_e0, zmay_none (by omega) (by omega)]; decide
  unfold emembers
  rw [hmo, if_neg (by simp), if_neg (by decide)]
  have hp : ptimes e0 (0 - e0.long - 1800) (4320 + 1800) = [600, 3480, 4920] := ptimes_e0
  rw [hp]
  have h1 : mem1 0 [] e0 0 4320 [600, 3480, 4920] = [(600, 630), (3480, 3510)] := by
    unfold mem1
    simp only [List.flatMap_cons, List.flatMap_nil]
    rw [mspan_none (by omega) (by omega) (by omega) (by omega), mspan_none (by omega) (by omega) (by omega) (by omega), mspan_none (by omega) (by omega) (by omega) (by omega)]
    decide
  have h2 : mem2 0 [] e0 0 4320 e0.changes = [] := by
    unfold mem2
    show List.flatMap _ [(2040, 2040, 0)] = []
    simp only [List.flatMap_cons, List.flatMap_nil, List.append_nil]
    split
    · rw [mspan_none (by omega) (by omega) (by omega) (by omega)]; rfl
    · rfl
  rw [h1, h2, List.append_nil]
  unfold ssort
  rw [List.mergeSort_of_pairwise]
  simp [spanLe]
end Go.Proofs.YthcngkcfopaigaaGreat

namespace Go.Proofs.YthcngkcfopaigaaGreat
open Go.RowKit
abbrev A0 (g : Nat) : EvA := ⟨none, 0, none, 0, none, 0, none, 0, none, 0, none, 0, some ⟨g, 0, none⟩, 1⟩
theorem evAt_e0 {w : World} {g : Nat} {t : TypeId} (h : w.heap[g]? = some (.cells #[.int .i64 2040, .int .i64 2040, .int .i64 0] t (0, 0))) : EvAt w e0 (A0 g) :=
  ⟨⟨⟨fun h => absurd rfl h, fun _ _ e => by cases e⟩, ⟨fun h => absurd rfl h, fun _ _ e => by cases e⟩, ⟨fun h => absurd rfl h, fun _ _ e => by cases e⟩, ⟨fun h => absurd rfl h, fun _ _ e => by cases e⟩, by decide, by decide, by decide, by decide⟩, ⟨fun h => absurd rfl h, fun _ _ e => by cases e⟩, ⟨fun h => absurd rfl h, fun _ _ e => by cases e⟩, ⟨fun _ => ⟨g, 0, rfl⟩, by
    intro b off he j x hx i v hv
    cases he
    match j, hx with
    | 0, hx => cases hx; refine blk_cell h _ ?_; match i, hv with
      | 0, hv => exact hv
      | 1, hv => exact hv
      | 2, hv => exact hv⟩, by decide, by decide, by decide⟩
theorem row_two {w : World} {b off : Nat} {x y : Int × Int} (h : ∀ (j : Nat) z, [x, y][j]? = some z → ∀ (i : Nat) v, (encT z)[i]? = some v → w.cell? ⟨b, off + j * 2 + i, none⟩ = some v) :
    w.cell? ⟨b, off, none⟩ = some (.int .i64 x.1) ∧ w.cell? ⟨b, off + 1, none⟩ = some (.int .i64 x.2) ∧ w.cell? ⟨b, off + 2, none⟩ = some (.int .i64 y.1) ∧ w.cell? ⟨b, off + 2 + 1, none⟩ = some (.int .i64 y.2) :=
  ⟨by simpa using h 0 x rfl 0 _ rfl, by simpa using h 0 x rfl 1 _ rfl, by simpa using h 1 y rfl 0 _ rfl, by simpa using h 1 y rfl 1 _ rfl⟩
theorem fixed_c (w : World) :
    Calls Tryz.prog 9 #[] w fun e w' => e = .returned (.bool true) ∧ Below w.heap.size w w' := by
  have HM := Hid.mk (fun (g : Nat) w' (hr : EvAt w' e0 (A0 g)) => members_e0 ▸ members_c 0 none 0 [] e0 (A0 g) 0 4320 w' ⟨fun h => absurd rfl h, fun _ _ e => by cases e⟩ (by decide) hr)
  go_enter Tryz.func9, Tryz.ntmps9
  try dsimp only [List.append]
  go_wp2_with (first | (refine ev_load (e := e0) (A := A0 w.heap.size) rfl _ rfl _ rfl (blk_new _ _) ?_) | (go_at_call 13; (refine (HM.out w.heap.size _ (evAt_e0 (blk_alloc (blk_new _ _) _))).mono ?_); rintro e' w1 ⟨⟨v, rfl, ho⟩, hb⟩; have hB := bl_step (bl_alloc (bl_alloc (Below.refl w.heap.size w) _) _) hb; obtain ⟨a, cap, rfl, hrow⟩ := owns_row ho; obtain ⟨b, off, rfl, hcells⟩ := hrow.get (j := 0) (by decide); obtain ⟨c0, c1, c2, c3⟩ := row_two hcells; clear ho hrow hcells hb HM))
  go_ret
  exact ⟨rfl, hB⟩
end Go.Proofs.YthcngkcfopaigaaGreat

namespace Go.Proofs.YthcngkcfopaigaaGreat
open Go.RowKit
def once (s l : Int) : EventV := ⟨s, l, false, false, RuleV.zero, [], [], []⟩
abbrev AN : EvA := ⟨none, 0, none, 0, none, 0, none, 0, none, 0, none, 0, none, 0⟩
theorem evAt_once (w : World) (s l : Int) : EvAt w (once s l) AN :=
  ⟨ruleAt_zero w, ⟨fun h => absurd rfl h, fun _ _ e => by cases e⟩, ⟨fun h => absurd rfl h, fun _ _ e => by cases e⟩, ⟨fun h => absurd rfl h, fun _ _ e => by cases e⟩, Nat.zero_le _, Nat.zero_le _, Nat.zero_le _⟩
theorem emay_once_mk {s l : Int} (h1 : 0 ≤ s) (h2 : s < 158310720) (h3 : 1 ≤ l) (h4 : l ≤ 10080) : emay (once s l) = true := by
  unfold emay
  have : rsame (once s l).rule RuleV.zero = true := by show rsame RuleV.zero RuleV.zero = true; decide
  simp only [once, stampB, Bool.and_eq_true]
  simp [h1, h2, h3, h4]
  decide
theorem members_once {base s l f t : Int} (b1 : -900 ≤ base) (b2 : base ≤ 900) (s1 : 2000 ≤ s) (s2 : s ≤ 100500000) (l1 : 1 ≤ l) (l2 : l ≤ 10000) (h1 : f + 1000 ≤ s) (h2 : s + 1000 ≤ t) (h3 : -10000000 ≤ f) (h4 : t - f ≤ 528480) :
    emembers base [] (once s l) f t = [(s - base, s - base + l)] := by
  have hm : emay (once s l) = true := emay_once_mk (by omega) (by omega) l1 (by omega)
  have hmo : mout base [] (once s l) f t = false := by
    unfold mout
    rw [hm, zmay_none b1 b2]
    simp; omega
  unfold emembers
  rw [hmo, if_neg (by simp), if_neg (by simp [once]), ptimes_once rfl]
  rw [if_pos (by show f - l - 1800 ≤ s ∧ s < t + 1800; omega)]
  have e1 : mem1 base [] (once s l) f t [(once s l).start] = [(s - base, s - base + l)] := by
    show List.flatMap _ [s] = _
    simp only [List.flatMap_cons, List.flatMap_nil, List.append_nil]
    show mspan base [] s l f t = _
    rw [mspan_none b1 b2 (by omega) (by omega), if_pos (by omega)]
  rw [e1]
  show ssort ([(s - base, s - base + l)] ++ []) = _
  rw [List.append_nil, ssort_one]
theorem row_one {w : World} {b off : Nat} {x : Int × Int} (h : ∀ (j : Nat) z, [x][j]? = some z → ∀ (i : Nat) v, (encT z)[i]? = some v → w.cell? ⟨b, off + j * 2 + i, none⟩ = some v) :
    w.cell? ⟨b, off, none⟩ = some (.int .i64 x.1) ∧ w.cell? ⟨b, off + 1, none⟩ = some (.int .i64 x.2) :=
  ⟨by simpa using h 0 x rfl 0 _ rfl, by simpa using h 0 x rfl 1 _ rfl⟩
theorem heap2 {w w' : World} {o0 o1 : Obj} (h : Below ((w.alloc o0).alloc o1).heap.size ((w.alloc o0).alloc o1) w') : w'.heap[w.heap.size]? = some o0 ∧ w'.heap[w.heap.size + 1]? = some o1 := by
  have n1 := blk_new (w.alloc o0) o1
  simp only [World.size_alloc] at n1
  exact ⟨blk_below (blk_alloc (blk_new w o0) _) h, blk_below n1 h⟩
set_option maxRecDepth 100000 in
set_option maxHeartbeats 8000000 in
theorem moved_c (a0 a1 a2 a3 a4 : Int) (w : World) :
    Calls Tryz.prog 6 #[.int .i64 a0, .int .i64 a1, .int .i64 a2, .int .i64 a3, .int .i64 a4] w fun e w' => e = .returned (.bool true) ∧ Below w.heap.size w w' := by
  have HF := Hid.mk (fun w => fixed_c w)
  rcases Bool.eq_false_or_eq_true (decide (a0 < -900)) with h1 | h1
  rotate_left
  rcases Bool.eq_false_or_eq_true (decide (900 < a0)) with h2 | h2
  rotate_left
  rcases Bool.eq_false_or_eq_true (decide (a1 < 2000)) with h3 | h3
  rotate_left
  rcases Bool.eq_false_or_eq_true (decide (100000000 < a1)) with h4 | h4
  rotate_left
  rcases Bool.eq_false_or_eq_true (decide (a3 < 0)) with h5 | h5
  rotate_left
  rcases Bool.eq_false_or_eq_true (decide (500000 < a3)) with h6 | h6
  rotate_left
  rcases Bool.eq_false_or_eq_true (decide (a2 < 1)) with h7 | h7
  rotate_left
  rcases Bool.eq_false_or_eq_true (decide (5000 < a2)) with h8 | h8
  rotate_left
  rcases Bool.eq_false_or_eq_true (decide (a4 < 0)) with h9 | h9
  rotate_left
  rcases Bool.eq_false_or_eq_true (decide (5000 < a4)) with h10 | h10
  rotate_left
  · have g1 := of_decide_eq_false h1
    have g2 := of_decide_eq_false h2
    have g3 := of_decide_eq_false h3
    have g4 := of_decide_eq_false h4
    have g5 := of_decide_eq_false h5
    have g6 := of_decide_eq_false h6
    have g7 := of_decide_eq_false h7
    have g8 := of_decide_eq_false h8
    have g9 := of_decide_eq_false h9
    have g10 := of_decide_eq_false h10
    have HM1 := Hid.mk (fun (w' : World) => members_once (base := a0) (s := a1) (l := a2) (f := a1 - 1000) (t := a1 - 1000 + 527040) (by omega) (by omega) (by omega) (by omega) (by omega) (by omega) (by omega) (by omega) (by omega) (by omega) ▸ members_c a0 none 0 [] (once a1 a2) AN (a1 - 1000) (a1 - 1000 + 527040) w' ⟨fun h => absurd rfl h, fun _ _ e => by cases e⟩ (by decide) (evAt_once w' _ _))
    have HM2 := Hid.mk (fun (w' : World) => members_once (base := a0) (s := a1 + a3) (l := a2 + a4) (f := a1 - 1000) (t := a1 - 1000 + 527040) (by omega) (by omega) (by omega) (by omega) (by omega) (by omega) (by omega) (by omega) (by omega) (by omega) ▸ members_c a0 none 0 [] (once (a1 + a3) (a2 + a4)) AN (a1 - 1000) (a1 - 1000 + 527040) w' ⟨fun h => absurd rfl h, fun _ _ e => by cases e⟩ (by decide) (evAt_once w' _ _))
    have i1 := IntWalk.i64_in (n := a1 - 1000) (by omega)
    have i2 := IntWalk.i64_in (n := a1 - 1000 + 527040) (by omega)
    have i3 := IntWalk.i64_in (n := a1 + a3) (by omega)
    have i4 := IntWalk.i64_in (n := a2 + a4) (by omega)
    have i5 := IntWalk.i64_in (n := a1 - a0) (by omega)
    have i6 := IntWalk.i64_in (n := a1 - a0 + a2) (by omega)
    go_enter Tryz.func6, Tryz.ntmps6
    try dsimp only [List.append]
    go_wp2_with (first | (go_at_call 13; (refine (HM1.out _).mono ?_); clear HM1; rintro e' w1 ⟨⟨v, rfl, ho⟩, hb⟩; have hB := bl_step (bl_alloc (bl_alloc (Below.refl w.heap.size w) _) _) hb; obtain ⟨z1, z2⟩ := heap2 hb; have u0 := blk_cell z1 0 rfl; have u1 := blk_cell z1 1 rfl; have u2 := blk_cell z2 0 rfl; have u3 := blk_cell z2 1 rfl; obtain ⟨a, cap, rfl, hrow⟩ := owns_row ho; obtain ⟨b, off, rfl, hcells⟩ := hrow.get (j := 0) (Nat.zero_lt_one); obtain ⟨c0, c1⟩ := row_one hcells; clear ho hrow hcells hb z1 z2) | (go_at_call 13; (refine (HM2.out _).mono ?_); clear HM2; rintro e' w2 ⟨⟨v2, rfl, ho2⟩, hb2⟩; have hB2 := bl_step hB hb2; have x0 := below_get hb2 c0; have x1 := below_get hb2 c1; obtain ⟨a', cap', rfl, hrow⟩ := owns_row ho2; obtain ⟨b', off', rfl, hcells⟩ := hrow.get (j := 0) (Nat.zero_lt_one); obtain ⟨x2, x3⟩ := row_one hcells; clear ho2 hrow hcells hb2 hB u0 u1 u2 u3 c0 c1))
    have y0 := fun p : Wb w2 => below_get p.2 x0
    have y1 := fun p : Wb w2 => below_get p.2 x1
    have y2 := fun p : Wb w2 => (below_get p.2 x2).trans (show some (Value.int .i64 (a1 + a3 - a0)) = some (.int .i64 (a1 - a0 + a3)) by rw [show a1 + a3 - a0 = a1 - a0 + a3 by omega])
    have y3 := fun p : Wb w2 => (below_get p.2 x3).trans (show some (Value.int .i64 (a1 + a3 - a0 + (a2 + a4))) = some (.int .i64 (a1 - a0 + a2 + a3 + a4)) by rw [show a1 + a3 - a0 + (a2 + a4) = a1 - a0 + a2 + a3 + a4 by omega])
    have i7 := IntWalk.i64_in (n := a1 - a0 + a3) (by omega)
    have i8 := IntWalk.i64_in (n := a1 - a0 + a2 + a3) (by omega)
    have i9 := IntWalk.i64_in (n := a1 - a0 + a2 + a3 + a4) (by omega)
    clear x0 x1 x2 x3 h1 h2 h3 h4 h5 h6 h7 h8 h9 h10
    refine wp_region_below (by kernel_rfl) (by kernel_rfl) ?_
    repeat (go_big_quiet_step ((go_at_call 9; exact wb_call _ (HF.out _))))
    refine wpQuiet_nil ?_
    intro _ hw'
    obtain ⟨⟨w3, hb3⟩, rfl⟩ := hw'
    go_wp2
    go_ret
    exact ⟨rfl, bl_step hB2 hb3⟩
  all_goals
    go_enter Tryz.func6, Tryz.ntmps6
    try dsimp only [List.append]
    go_wp2_with (go_at_call 9; (refine (HF.out _).mono ?_); rintro e' w1 ⟨rfl, hb⟩)
    go_ret
    exact ⟨rfl, bl_step (bl_alloc (Below.refl w.heap.size w) _) hb⟩
end Go.Proofs.YthcngkcfopaigaaGreat
