/- The walks of a walker's functions: which days are right.
The walks of the small functions on zones.
The walks of the document's small functions on zones.
The walks of the search among turns.
The walks that tell of which minute a local time comes: the program's. -/
import Derived.Test.YthcngkcfopaigaaGreatK4
import Derived.Test.YthcngkcfopaigaaGreatK5
import Derived.Test.YthcngkcfopaigaaGreatProg
import Derived.Test.YthcngkcfopaigaaGreatK3
import Derived.Test.YthcngkcfopaigaaGreatK1
namespace Go.Proofs.YthcngkcfopaigaaGreat
open Go.RowKit
abbrev walkC (r : RuleV) (a1 : Option Addr) (c1 : Nat) (a2 : Option Addr) (c2 : Nat) (a3 : Option Addr) (c3 : Nat) (a4 : Option Addr) (c4 : Nat) (s mi : Int) : Array Value :=
  #[.int .i64 r.freq, .int .i64 r.interval, .int .i64 r.count, .int .i64 r.till, .slice a1 r.byMonth.length c1, .slice a2 r.byMonthDay.length c2, .slice a3 r.byDay.length c3, .slice a4 r.bySetPos.length c4, .int .i64 r.start,
    .int .i64 s, .int .i64 (yr s), .int .i64 (mo s), .int .i64 (da s), .int .i64 mi]
/-- a walker lies at p -/
structure WkAt (w : World) (p : Nat) (r : RuleV) (a1 : Option Addr) (c1 : Nat) (a2 : Option Addr) (c2 : Nat) (a3 : Option Addr) (c3 : Nat) (a4 : Option Addr) (c4 : Nat) (s mi : Int) : Prop where
  cell : ∀ (i : Nat) v, (walkC r a1 c1 a2 c2 a3 c3 a4 c4 s mi)[i]? = some v → w.cell? ⟨p, i, none⟩ = some v
  rule : RuleAt w r a1 a2 a3 a4
theorem WkAt.below {w w' : World} {p : Nat} {r : RuleV} {a1 : Option Addr} {c1 : Nat} {a2 : Option Addr} {c2 : Nat} {a3 : Option Addr} {c3 : Nat} {a4 : Option Addr} {c4 : Nat} {s mi : Int}
    (h : WkAt w p r a1 c1 a2 c2 a3 c3 a4 c4 s mi) (hb : Below w.heap.size w w') : WkAt w' p r a1 c1 a2 c2 a3 c3 a4 c4 s mi :=
  ⟨fun i v hv => below_get hb (h.cell i v hv), h.rule.below hb⟩
theorem dateV_eq (n : Int) : dateV n = .agg #[.int .i64 (yr n), .int .i64 (mo n), .int .i64 (da n)] := rfl
set_option maxRecDepth 100000 in
set_option maxHeartbeats 4000000 in
theorem right_c (w : World) (p : Nat) (r : RuleV) (a1 : Option Addr) (c1 : Nat) (a2 : Option Addr) (c2 : Nat) (a3 : Option Addr) (c3 : Nat) (a4 : Option Addr) (c4 : Nat) (s mi n : Int)
    (hw : WkAt w p r a1 c1 a2 c2 a3 c3 a4 c4 s mi) (h0 : 0 ≤ n) (h1 : n < 109938) :
    Calls Tryz.prog 137 #[.pointer (some ⟨p, 0, none⟩), .int .i64 n, dateV n] w fun e w' => e = .returned (.bool (rright r n)) ∧ Below w.heap.size w w' := by
  rw [dateV_eq]
  obtain ⟨y0, y1, m0, m1, d0, d1, d2, dn⟩ := dat_spec h0 h1
  have n1 := hw.rule.b1
  have n2 := hw.rule.b2
  have n3 := hw.rule.b3
  have HM := Hid.mk (fun w' hb => contains_c a1 c1 r.byMonth (mo n) w' (hw.rule.below hb).r1 (by omega))
  have HD := Hid.mk (fun w' hb => contains_c a2 c2 r.byMonthDay (da n) w' (hw.rule.below hb).r2 (by omega))
  have HB := Hid.mk (fun w' hb => contains_c a2 c2 r.byMonthDay (da n - mlen (yr n) (mo n) - 1) w' (hw.rule.below hb).r2 (by omega))
  have HN := Hid.mk (fun w' hb => nth_c a3 c3 r.byDay (yr n) (mo n) (da n) (n % 7) w' (hw.rule.below hb).r3 (by omega) (by omega) (by omega) (by omega) (by omega) (by omega))
  have HL := Hid.mk (fun w' => length_c (yr n) (mo n) w' (by omega) (by omega))
  have k0 := hw.cell 0 _ rfl
  have k1 := hw.cell 1 _ rfl
  have k2 := hw.cell 2 _ rfl
  have k3 := hw.cell 3 _ rfl
  have k4 := hw.cell 4 _ rfl
  have k5 := hw.cell 5 _ rfl
  have k6 := hw.cell 6 _ rfl
  have k7 := hw.cell 7 _ rfl
  have k8 := hw.cell 8 _ rfl
  have hp := block_lt k0
  clear hw dn
  have HV := Hid.mk (show rright r n = ((decide (r.byMonth.length = 0) || has r.byMonth (mo n)) && (decide (r.byMonthDay.length = 0) || has r.byMonthDay (da n) || has r.byMonthDay (da n - mlen (yr n) (mo n) - 1)) && (decide (r.byDay.length = 0) || nthB r.byDay (da n) (mlen (yr n) (mo n)) (n % 7))) from rfl)
  generalize rright r n = v at *
  have hM : (¬ 0 < (r.byMonth.length : Int) ∨ has r.byMonth (mo n) = true) ∨ (0 < (r.byMonth.length : Int) ∧ has r.byMonth (mo n) = false) := by
    by_cases g : 0 < (r.byMonth.length : Int)
    · cases has r.byMonth (mo n) <;> first | exact .inr ⟨g, rfl⟩ | exact .inl (.inr rfl)
    · exact .inl (.inl g)
  rcases hM with hM | ⟨g1, hm⟩
  rotate_left
  · have e1 := decide_eq_true g1
    have E1 : Hid (decide (r.byMonth.length = 0) = false) := Hid.mk (decide_eq_false (by omega))
    rw [hm] at HM
    have HF : Hid (v = false) := by unfold Hid; rw [HV.out, hm, E1.out]; simp
    clear hm
    go_enter Tryz.func137, Tryz.ntmps137
    try dsimp only [List.append]
    go_wp2_with (first | (go_at_call 135; (with_reducible refine (HM.out _ blw).mono ?_); rintro e w' ⟨rfl, rfl⟩))
    go_ret
    exact ⟨ret_bool HF.out.symm, blw⟩
  have HMT : Hid ((decide (r.byMonth.length = 0) || has r.byMonth (mo n)) = true) := by
    unfold Hid; rcases hM with h | h
    · have : r.byMonth.length = 0 := by omega
      simp [this]
    · simp [h]
  have hM2 : ¬ 0 < (r.byMonth.length : Int) ∨ (0 < (r.byMonth.length : Int) ∧ has r.byMonth (mo n) = true) := by
    by_cases g : 0 < (r.byMonth.length : Int)
    · rcases hM with h | h
      · exact absurd g h
      · exact .inr ⟨g, h⟩
    · exact .inl g
  clear hM
  rcases hM2 with g1 | ⟨g1, hm⟩
  all_goals
    first | have e1 := decide_eq_true g1 | have e1 := decide_eq_false g1
    try rw [hm] at HM
    try clear hm
    have hD : (¬ 0 < (r.byMonthDay.length : Int) ∨ (0 < (r.byMonthDay.length : Int) ∧ has r.byMonthDay (da n) = true) ∨ (0 < (r.byMonthDay.length : Int) ∧ has r.byMonthDay (da n) = false ∧ has r.byMonthDay (da n - mlen (yr n) (mo n) - 1) = true)) ∨ (0 < (r.byMonthDay.length : Int) ∧ has r.byMonthDay (da n) = false ∧ has r.byMonthDay (da n - mlen (yr n) (mo n) - 1) = false) := by
      by_cases g : 0 < (r.byMonthDay.length : Int)
      · cases has r.byMonthDay (da n) <;> cases has r.byMonthDay (da n - mlen (yr n) (mo n) - 1) <;> first | exact .inr ⟨g, rfl, rfl⟩ | exact .inl (.inr (.inl ⟨g, rfl⟩)) | exact .inl (.inr (.inr ⟨g, rfl, rfl⟩))
      · exact .inl (.inl g)
    rcases hD with hD | ⟨g2, hd, hb⟩
    rotate_left
    · have e2 := decide_eq_true g2
      have E2 : Hid (decide (r.byMonthDay.length = 0) = false) := Hid.mk (decide_eq_false (by omega))
      rw [hd] at HD
      rw [hb] at HB
      have HF : Hid (v = false) := by unfold Hid; rw [HV.out, hd, hb, E2.out]; simp
      clear hd hb
      go_enter Tryz.func137, Tryz.ntmps137
      try dsimp only [List.append]
      go_wp2_with (first | (go_at_call 135; (with_reducible refine (HM.out _ blw).mono ?_); rintro e w' ⟨rfl, rfl⟩))
      go_quiet ((go_at_call 140; exact Calls.quiet_of_same ((HL.out _).mono fun _ _ h => ⟨h.1, h.2.symm⟩)))
      go_wp2_with (first | (go_at_call 135; (with_reducible refine (HD.out _ blw).mono ?_); rintro e w' ⟨rfl, rfl⟩) | (go_at_call 135; (with_reducible refine (HB.out _ blw).mono ?_); rintro e w' ⟨rfl, rfl⟩))
      go_ret
      exact ⟨ret_bool HF.out.symm, blw⟩
    have HDT : Hid ((decide (r.byMonthDay.length = 0) || has r.byMonthDay (da n) || has r.byMonthDay (da n - mlen (yr n) (mo n) - 1)) = true) := by
      unfold Hid; rcases hD with h | ⟨_, h⟩ | ⟨_, _, h⟩
      · have : r.byMonthDay.length = 0 := by omega
        simp [this]
      · simp [h]
      · simp [h]
    rcases hD with g2 | ⟨g2, hd⟩ | ⟨g2, hd, hb⟩
    all_goals
      first | have e2 := decide_eq_true g2 | have e2 := decide_eq_false g2
      try rw [hd] at HD
      try rw [hb] at HB
      try clear hb
      try clear hd
      by_cases g3 : r.byDay.length = 0
      · have e3 : (((r.byDay.length : Nat) : Int) == 0) = true := by rw [g3]; rfl
        have HF : Hid (v = true) := by unfold Hid; rw [HV.out, HMT.out, HDT.out]; simp [g3]
        clear g3
        go_enter Tryz.func137, Tryz.ntmps137
        try dsimp only [List.append]
        go_wp2_with (first | (go_at_call 135; (with_reducible refine (HM.out _ blw).mono ?_); rintro e w' ⟨rfl, rfl⟩))
        go_quiet ((go_at_call 140; exact Calls.quiet_of_same ((HL.out _).mono fun _ _ h => ⟨h.1, h.2.symm⟩)))
        go_wp2_with (first | (go_at_call 135; (with_reducible refine (HD.out _ blw).mono ?_); rintro e w' ⟨rfl, rfl⟩) | (go_at_call 135; (with_reducible refine (HB.out _ blw).mono ?_); rintro e w' ⟨rfl, rfl⟩))
        go_quiet (fail)
        go_wp2
        go_ret
        exact ⟨ret_bool HF.out.symm, blw⟩
      have e3 : (((r.byDay.length : Nat) : Int) == 0) = false := by simp; intro h; rw [h] at g3; simp at g3
      have HF : Hid (v = nthB r.byDay (da n) (mlen (yr n) (mo n)) (n % 7)) := by unfold Hid; rw [HV.out, HMT.out, HDT.out]; simp [g3]
      clear g3
      go_enter Tryz.func137, Tryz.ntmps137
      try dsimp only [List.append]
      go_wp2_with (first | (go_at_call 135; (with_reducible refine (HM.out _ blw).mono ?_); rintro e w' ⟨rfl, rfl⟩))
      go_quiet ((go_at_call 140; exact Calls.quiet_of_same ((HL.out _).mono fun _ _ h => ⟨h.1, h.2.symm⟩)))
      go_wp2_with (first | (go_at_call 135; (with_reducible refine (HD.out _ blw).mono ?_); rintro e w' ⟨rfl, rfl⟩) | (go_at_call 135; (with_reducible refine (HB.out _ blw).mono ?_); rintro e w' ⟨rfl, rfl⟩))
      generalize hW1 : ((w.alloc (Obj.cells #[.int .i64 (yr n), .int .i64 (mo n), .int .i64 (da n)] 87)).alloc (Obj.cells (ruleC r a1 c1 a2 c2 a3 c3 a4 c4) 28)).drewN nq = W1
      have hWB : Below w.heap.size w W1 := by rw [← hW1]; exact blw
      have b0 := fun q : Wb W1 => wb_cell (a := ⟨w.heap.size, 0, none⟩) (v := .int .i64 (yr n)) q (by rw [← hW1]; simp [go_sem]) (by rw [← hW1]; simp; try omega)
      have b1 := fun q : Wb W1 => wb_cell (a := ⟨w.heap.size, 1, none⟩) (v := .int .i64 (mo n)) q (by rw [← hW1]; simp [go_sem]) (by rw [← hW1]; simp; try omega)
      have b2 := fun q : Wb W1 => wb_cell (a := ⟨w.heap.size, 2, none⟩) (v := .int .i64 (da n)) q (by rw [← hW1]; simp [go_sem]) (by rw [← hW1]; simp; try omega)
      have b3 := fun q : Wb W1 => wb_cell (a := ⟨w.heap.size + 1, 6, none⟩) (v := .slice a3 r.byDay.length c3) q (by rw [← hW1]; simp [go_sem]) (by rw [← hW1]; simp; try omega)
      clear hW1
      refine wp_region_below (by kernel_rfl) (by kernel_rfl) ?_
      repeat (go_big_quiet_step (first | (go_at_call 133; exact wb_call_same _ (weekday_c n _ (by omega) (by omega))) | (go_at_call 142; exact wb_call _ (HN.out _ (bl_step hWB (Wb.b _))))))
      refine wpQuiet_nil ?_
      intro _ hw'
      obtain ⟨⟨w2, hb3⟩, rfl⟩ := hw'
      clear b0 b1 b2 b3
      go_wp2
      go_ret
      exact ⟨ret_bool HF.out.symm, bl_step hWB hb3⟩
end Go.Proofs.YthcngkcfopaigaaGreat

namespace Go.Proofs.YthcngkcfopaigaaGreat
open Go.RowKit
def encT (t : Int × Int) : List Value := [.int .i64 t.1, .int .i64 t.2]
theorem row_t {w : World} {b off : Nat} {ts : List (Int × Int)} (h : ∀ (j : Nat) x, ts[j]? = some x → ∀ (i : Nat) v, (encT x)[i]? = some v → w.cell? ⟨b, off + j * 2 + i, none⟩ = some v) {k : Nat} (hk : k < ts.length) :
    w.cell? ⟨b, off + k * 2, none⟩ = some (.int .i64 (ta ts k)) ∧ w.cell? ⟨b, off + k * 2 + 1, none⟩ = some (.int .i64 (tof ts k)) := by
  have e : ts[k]? = some ts[k] := List.getElem?_eq_getElem hk
  have h0 := h k _ e 0 _ rfl
  have h1 := h k _ e 1 _ rfl
  simp only [ta, tof, e, Option.getD_some]
  exact ⟨h0, h1⟩
theorem wide_c (n : Int) (w : World) : Calls Tryz.prog 50 #[.int .i64 n] w fun e w' => e = .returned (.bool (wideB n)) ∧ w = w' := by
  go_enter Tryz.func50, Tryz.ntmps50
  go_wp2
  all_goals (go_ret; refine ⟨ret_bool ?_, rfl⟩; simp [wideB]; try omega)
theorem in_c (n : Int) (w : World) : Calls Tryz.prog 83 #[.int .i64 n] w fun e w' => e = .returned (.bool (decide (0 ≤ n) && decide (n ≤ 158310720))) ∧ w = w' := by
  go_enter Tryz.func83, Tryz.ntmps83
  go_wp2
  all_goals (go_ret; refine ⟨ret_bool ?_, rfl⟩; simp; try omega)
theorem tok_no {ts : List (Int × Int)} {i : Nat} (h : ¬ ((-900 ≤ tof ts i ∧ tof ts i ≤ 900) ∧ 0 ≤ ta ts i ∧ ta ts i ≤ 158310720 ∧ (i = 0 ∨ 2880 ≤ ta ts i - ta ts (i - 1)))) : tok ts i = false := by
  cases e : tok ts i with
  | false => rfl
  | true => exact absurd (tok_iff.1 e) h
set_option maxHeartbeats 4000000 in
theorem zmay_c (base : Int) (a : Option Addr) (cap : Nat) (ts : List (Int × Int)) (w : World) (hr : Row 2 encT w a ts) (hbig : ts.length ≤ 9223372036854775807) :
    Calls Tryz.prog 29 #[.agg #[.int .i64 base, .slice a ts.length cap]] w fun e w' => e = .returned (.bool (zmay base ts)) ∧ Below w.heap.size w w' := by
  cases hw : wideB base with
  | true =>
    have HZ : Hid (zmay base ts = false) := by unfold Hid zmay; rw [hw]; rfl
    go_enter Tryz.func29, Tryz.ntmps29
    go_wp2_with (go_at_call 50; refine (wide_c _ _).mono ?_; rw [hw]; rintro e w' ⟨rfl, rfl⟩)
    go_ret
    exact ⟨ret_bool HZ.out.symm, blw⟩
  | false =>
    by_cases hn : 700 < ts.length
    · have HZ : Hid (zmay base ts = false) := by unfold Hid zmay; rw [hw]; simp; omega
      have hn' : decide (700 < ts.length) = true := decide_eq_true hn
      go_enter Tryz.func29, Tryz.ntmps29
      go_wp2_with (go_at_call 50; refine (wide_c _ _).mono ?_; rw [hw]; rintro e w' ⟨rfl, rfl⟩)
      go_ret
      exact ⟨ret_bool HZ.out.symm, blw⟩
    · have hn' : decide (700 < ts.length) = false := decide_eq_false hn
      have HW := Hid.mk hw
      have HT : Hid (zmay base ts = upto (tok ts) ts.length) := by unfold Hid zmay; rw [hw]; simp; omega
      go_enter Tryz.func29, Tryz.ntmps29
      go_wp2_with (go_at_call 50; refine (wide_c _ _).mono ?_; rw [hw]; rintro e w' ⟨rfl, rfl⟩)
      go_loopw [17] (fun i wr => ∃ k : Nat, k ≤ ts.length ∧ i = .int .i64 k ∧ (∀ j, j < k → tok ts j = true) ∧ Below (w.alloc (.cells #[.int .i64 base, .slice a ts.length cap] 24)).heap.size (w.alloc (.cells #[.int .i64 base, .slice a ts.length cap] 24)) wr) (fun i _ => ts.length - (intOf i).toNat)
      case atStart => exact ⟨0, Nat.zero_le _, rfl, fun j h => absurd h (Nat.not_lt_zero _), Below.refl _ _⟩
      case round =>
        obtain ⟨k, hk, rfl, hok, hB⟩ := hrel
        have hB2 : Below w.heap.size w wr := bl_step (bl_alloc (Below.refl _ _) _) hB
        have b1 := box_get hB 1 rfl
        by_cases hlt : k < ts.length
        · obtain ⟨b, off, rfl, hcells⟩ := (hr.below hB2).get hlt
          obtain ⟨c0, c1⟩ := row_t hcells hlt
          have hsz : w.heap.size < wr.heap.size := by have := hB.size; simp at this; omega
          have hbz : b < wr.heap.size := block_lt c0
          have HC := Hid.mk hcells
          have HOK := Hid.mk hok
          have HHR := Hid.mk hr
          clear hcells hok hr
          cases hwd : wideB (tof ts k) with
          | true =>
            have HWD := Hid.mk (show ¬ (-900 ≤ tof ts k ∧ tof ts k ≤ 900) from fun h => by rw [← wideB_false] at h; rw [h] at hwd; cases hwd)
            go_wp2_with (fail)
            go_quiet ((go_at_call 50; exact Calls.quiet_of_same ((wide_c _ _).mono fun _ _ h => ⟨hwd ▸ h.1, h.2.symm⟩)))
            go_wp2
            go_ret
            exact ⟨ret_bool (by rw [HT.out]; exact (upto_false hlt (tok_no (fun h => HWD.out h.1))).symm), blw⟩
          | false =>
            have hwd2 := wideB_false.1 hwd
            by_cases h1 : ta ts k < 0
            · have d1 := decide_eq_true h1
              go_wp2_with (fail)
              go_quiet ((go_at_call 50; exact Calls.quiet_of_same ((wide_c _ _).mono fun _ _ h => ⟨hwd ▸ h.1, h.2.symm⟩)))
              go_wp2
              go_ret
              exact ⟨ret_bool (by rw [HT.out]; exact (upto_false hlt (tok_no (by omega))).symm), blw⟩
            · have d1 := decide_eq_false h1
              by_cases h2 : 158310720 < ta ts k
              · have d2 := decide_eq_true h2
                go_wp2_with (fail)
                go_quiet ((go_at_call 50; exact Calls.quiet_of_same ((wide_c _ _).mono fun _ _ h => ⟨hwd ▸ h.1, h.2.symm⟩)))
                go_wp2
                go_ret
                exact ⟨ret_bool (by rw [HT.out]; exact (upto_false hlt (tok_no (by omega))).symm), blw⟩
              · have d2 := decide_eq_false h2
                by_cases h3 : 0 < k
                · have d3 := decide_eq_true h3
                  obtain ⟨p0, p1⟩ := row_t HC.out (k := k - 1) (by omega)
                  have hpk := (tok_iff.1 (HOK.out (k - 1) (by omega))).2
                  have hp0 := hpk.1
                  have hp1 := hpk.2.1
                  clear hpk
                  by_cases h4 : ta ts k < ta ts (k - 1)
                  · have d4 := decide_eq_true h4
                    go_wp2_with (fail)
                    go_quiet ((go_at_call 50; exact Calls.quiet_of_same ((wide_c _ _).mono fun _ _ h => ⟨hwd ▸ h.1, h.2.symm⟩)))
                    go_wp2
                    go_ret
                    exact ⟨ret_bool (by rw [HT.out]; exact (upto_false hlt (tok_no (by omega))).symm), blw⟩
                  · have d4 := decide_eq_false h4
                    by_cases h5 : ta ts k - ta ts (k - 1) < 2880
                    · have d5 := decide_eq_true h5
                      go_wp2_with (fail)
                      go_quiet ((go_at_call 50; exact Calls.quiet_of_same ((wide_c _ _).mono fun _ _ h => ⟨hwd ▸ h.1, h.2.symm⟩)))
                      go_wp2
                      go_ret
                      exact ⟨ret_bool (by rw [HT.out]; exact (upto_false hlt (tok_no (by omega))).symm), blw⟩
                    · have d5 := decide_eq_false h5
                      go_wp2_with (fail)
                      go_quiet ((go_at_call 50; exact Calls.quiet_of_same ((wide_c _ _).mono fun _ _ h => ⟨hwd ▸ h.1, h.2.symm⟩)))
                      go_wp2
                      go_roundw
                      case rel => exact ⟨k + 1, by omega, by go_num, fun j hj => by (by_cases e : j = k; subst e; exact (tok_iff.2 ⟨hwd2, by omega, by omega, .inr (by omega)⟩); exact HOK.out j (by omega)), blw⟩
                      case measure => simp [intOf]; omega
                · have d3 := decide_eq_false h3
                  go_wp2_with (fail)
                  go_quiet ((go_at_call 50; exact Calls.quiet_of_same ((wide_c _ _).mono fun _ _ h => ⟨hwd ▸ h.1, h.2.symm⟩)))
                  go_wp2
                  go_roundw
                  case rel => exact ⟨k + 1, by omega, by go_num, fun j hj => by (by_cases e : j = k; subst e; exact (tok_iff.2 ⟨hwd2, by omega, by omega, .inl (by omega)⟩); exact HOK.out j (by omega)), blw⟩
                  case measure => simp [intOf]; omega
        · go_wp2
          go_ret
          exact ⟨ret_bool (by rw [HT.out]; exact (upto_true fun j hj => hok j (by omega)).symm), hB2⟩
end Go.Proofs.YthcngkcfopaigaaGreat

namespace Go.Proofs.YthcngkcfopaigaaGreat
open Go.RowKit
def lastT (ts : List (Int × Int)) (k : Nat) : Int := if k = 0 then -2880 else ta ts (k - 1)
theorem lastT_succ (ts : List (Int × Int)) (k : Nat) : lastT ts (k + 1) = ta ts k := by simp [lastT]
theorem tok_last {ts : List (Int × Int)} {k : Nat} : tok ts k = true ↔ (-900 ≤ tof ts k ∧ tof ts k ≤ 900) ∧ 0 ≤ ta ts k ∧ ta ts k ≤ 158310720 ∧ 2880 ≤ ta ts k - lastT ts k := by
  rw [tok_iff]; unfold lastT; split <;> omega
theorem tok_last_no {ts : List (Int × Int)} {k : Nat} (h : ¬ ((-900 ≤ tof ts k ∧ tof ts k ≤ 900) ∧ 0 ≤ ta ts k ∧ ta ts k ≤ 158310720 ∧ 2880 ≤ ta ts k - lastT ts k)) : tok ts k = false := by
  cases e : tok ts k with
  | false => rfl
  | true => exact absurd (tok_last.1 e) h
theorem lastT_bd {ts : List (Int × Int)} {k : Nat} (h : ∀ j, j < k → tok ts j = true) : -2880 ≤ lastT ts k ∧ lastT ts k ≤ 158310720 := by
  unfold lastT; split
  · omega
  · have := tok_iff.1 (h (k - 1) (by omega)); omega
theorem zmay_no {base : Int} {ts : List (Int × Int)} (h : ¬ (-900 ≤ base ∧ base ≤ 900 ∧ ts.length ≤ 700)) : zmay base ts = false := by
  cases e : zmay base ts with
  | false => rfl
  | true => have := zmay_iff.1 e; exact absurd ⟨this.b1, this.b2, this.len⟩ h
theorem zmay_yes {base : Int} {ts : List (Int × Int)} (h1 : -900 ≤ base) (h2 : base ≤ 900) (h3 : ts.length ≤ 700) : zmay base ts = upto (tok ts) ts.length := by
  unfold zmay; rw [wideB_false.2 ⟨h1, h2⟩]; simp; omega
set_option maxHeartbeats 4000000 in
theorem zmayr_c (base : Int) (a : Option Addr) (cap : Nat) (ts : List (Int × Int)) (w : World) (hr : Row 2 encT w a ts) (hbig : ts.length ≤ 9223372036854775807) :
    Calls Tryz.prog 18 #[.agg #[.int .i64 base, .slice a ts.length cap]] w fun e w' => e = .returned (.bool (zmay base ts)) ∧ Below w.heap.size w w' := by
  by_cases g1 : base < -900
  · have HZ := Hid.mk (zmay_no (base := base) (ts := ts) (by omega))
    have e1 := decide_eq_true g1
    go_enter Tryz.func18, Tryz.ntmps18
    go_wp2
    go_ret
    exact ⟨ret_bool HZ.out.symm, blw⟩
  by_cases g2 : 900 < base
  · have HZ := Hid.mk (zmay_no (base := base) (ts := ts) (by omega))
    have e1 := decide_eq_false g1
    have e2 := decide_eq_true g2
    go_enter Tryz.func18, Tryz.ntmps18
    go_wp2
    go_ret
    exact ⟨ret_bool HZ.out.symm, blw⟩
  by_cases g3 : 700 < ts.length
  · have HZ := Hid.mk (zmay_no (base := base) (ts := ts) (by omega))
    have e1 := decide_eq_false g1
    have e2 := decide_eq_false g2
    have e3 : decide ((700 : Int) < (ts.length : Int)) = true := decide_eq_true (by omega)
    go_enter Tryz.func18, Tryz.ntmps18
    go_wp2
    go_ret
    exact ⟨ret_bool HZ.out.symm, blw⟩
  have HT := Hid.mk (zmay_yes (base := base) (ts := ts) (by omega) (by omega) (by omega))
  have e1 := decide_eq_false g1
  have e2 := decide_eq_false g2
  have e3 : decide ((700 : Int) < (ts.length : Int)) = false := decide_eq_false (by omega)
  go_enter Tryz.func18, Tryz.ntmps18
  go_wp2
  go_loopw [3, 23] (fun l i wr => ∃ k : Nat, k ≤ ts.length ∧ i = .int .i64 k ∧ l = .int .i64 (lastT ts k) ∧ (∀ j, j < k → tok ts j = true) ∧ Below (w.alloc (.cells #[.int .i64 base, .slice a ts.length cap] 24)).heap.size (w.alloc (.cells #[.int .i64 base, .slice a ts.length cap] 24)) wr) (fun _ i _ => ts.length - (intOf i).toNat)
  case atStart => exact ⟨0, Nat.zero_le _, rfl, rfl, fun j h => absurd h (Nat.not_lt_zero _), Below.refl _ _⟩
  case round =>
    obtain ⟨k, hk, rfl, rfl, hok, hB⟩ := hrel
    have hB2 : Below w.heap.size w wr := bl_step (bl_alloc (Below.refl _ _) _) hB
    have b1 := box_get hB 1 rfl
    by_cases hlt : k < ts.length
    · obtain ⟨b, off, rfl, hcells⟩ := (hr.below hB2).get hlt
      obtain ⟨c0, c1⟩ := row_t hcells hlt
      have hsz : w.heap.size < wr.heap.size := by have := hB.size; simp at this; omega
      have hbz : b < wr.heap.size := block_lt c0
      obtain ⟨l1, l2⟩ := lastT_bd hok
      have HL := Hid.mk (lastT_succ ts k)
      have HTL := Hid.mk (tok_last (ts := ts) (k := k))
      have HTN := Hid.mk (tok_last_no (ts := ts) (k := k))
      generalize lastT ts k = L at *
      generalize hta : ta ts k = A at *
      generalize hto : tof ts k = O at *
      have HA := Hid.mk hta
      have HO := Hid.mk hto
      have HOK := Hid.mk hok
      have HHR := Hid.mk hr
      clear hcells hok hr hta hto
      by_cases h1 : O < -900
      · have d1 := decide_eq_true h1
        go_wp2
        go_ret
        exact ⟨ret_bool (by rw [HT.out]; exact (upto_false hlt (HTN.out (by omega))).symm), blw⟩
      have d1 := decide_eq_false h1
      by_cases h2 : 900 < O
      · have d2 := decide_eq_true h2
        go_wp2
        go_ret
        exact ⟨ret_bool (by rw [HT.out]; exact (upto_false hlt (HTN.out (by omega))).symm), blw⟩
      have d2 := decide_eq_false h2
      by_cases h3 : A < 0
      · have d3 := decide_eq_true h3
        go_wp2
        go_ret
        exact ⟨ret_bool (by rw [HT.out]; exact (upto_false hlt (HTN.out (by omega))).symm), blw⟩
      have d3 := decide_eq_false h3
      by_cases h4 : 158310720 < A
      · have d4 := decide_eq_true h4
        go_wp2
        go_ret
        exact ⟨ret_bool (by rw [HT.out]; exact (upto_false hlt (HTN.out (by omega))).symm), blw⟩
      have d4 := decide_eq_false h4
      by_cases h5 : A - L < 2880
      · have d5 := decide_eq_true h5
        go_wp2
        go_ret
        exact ⟨ret_bool (by rw [HT.out]; exact (upto_false hlt (HTN.out (by omega))).symm), blw⟩
      have d5 := decide_eq_false h5
      go_wp2
      go_roundw
      case rel => exact ⟨k + 1, by omega, by go_num, by rw [HL.out], fun j hj => by (by_cases e : j = k; subst e; exact HTL.out.2 ⟨⟨by omega, by omega⟩, by omega, by omega, by omega⟩; exact HOK.out j (by omega)), blw⟩
      case measure => simp [intOf]; omega
    · go_wp2
      go_ret
      exact ⟨ret_bool (by rw [HT.out]; exact (upto_true fun j hj => hok j (by omega)).symm), hB2⟩
theorem added_at {base : Int} {ts : List (Int × Int)} {k : Nat} : added base ts (k + 1) = tof ts k := by simp [added]
set_option maxHeartbeats 2000000 in
theorem offr_c (base : Int) (a : Option Addr) (cap : Nat) (ts : List (Int × Int)) (u : Int) (w : World) (hr : Row 2 encT w a ts) (hz : ZOk base ts) :
    Calls Tryz.prog 41 #[.agg #[.int .i64 base, .slice a ts.length cap], .int .i64 u] w fun e w' => e = .returned (.int .i64 (zoff base ts u)) ∧ Below w.heap.size w w' := by
  have hbig := hz.len
  have HZ := Hid.mk hz
  clear hz
  go_enter Tryz.func41, Tryz.ntmps41
  go_wp2
  go_loop [5, 12] (fun l i => ∃ k : Nat, k ≤ ts.length ∧ i = .int .i64 k ∧ l = .int .i64 (added base ts (min k (nb ts u)))) (fun _ i => ts.length - (intOf i).toNat)
  case atStart => exact ⟨0, Nat.zero_le _, rfl, by simp [added]⟩
  case round =>
    obtain ⟨k, hk, rfl, rfl⟩ := hrel
    by_cases hlt : k < ts.length
    · obtain ⟨b, off, rfl, hcells⟩ := hr.get hlt
      obtain ⟨c0, c1⟩ := row_t hcells hlt
      have hbz : b < w.heap.size := block_lt c0
      have HG := Hid.mk (HZ.out.nb_gt hlt (u := u))
      by_cases h1 : ta ts k ≤ u
      · have hm : Hid (added base ts (min (k + 1) (nb ts u)) = tof ts k) := by
          have := HG.out.2 h1
          unfold Hid; rw [Nat.min_eq_left (by omega)]; exact added_at
        go_wp2
        go_round
        case rel => exact ⟨k + 1, by omega, by go_num, by rw [hm.out]⟩
        case measure => simp [intOf]; omega
      · have hm : Hid (added base ts (min (k + 1) (nb ts u)) = added base ts (min k (nb ts u))) := by
          have : ¬ k < nb ts u := fun h => h1 (HG.out.1 h)
          unfold Hid; rw [Nat.min_eq_right (by omega), Nat.min_eq_right (by omega)]
        go_wp2
        go_round
        case rel => exact ⟨k + 1, by omega, by go_num, by rw [hm.out]⟩
        case measure => simp [intOf]; omega
    · have hm : Hid (added base ts (min k (nb ts u)) = zoff base ts u) := by
        have := nb_le ts u
        unfold Hid zoff; rw [Nat.min_eq_right (by omega)]
      go_wp2
      go_ret
      exact ⟨ret_int hm.out, blw⟩
end Go.Proofs.YthcngkcfopaigaaGreat

namespace Go.Proofs.YthcngkcfopaigaaGreat
open Go.RowKit
def cmpI (a b : Int) : Int := if a < b then -1 else if b < a then 1 else 0
theorem cmpI_neg (a b : Int) : cmpI a b < 0 ↔ a < b := by unfold cmpI; split <;> (try split) <;> omega
theorem cmpI_zero (a b : Int) : cmpI a b = 0 ↔ a = b := by unfold cmpI; split <;> (try split) <;> omega
theorem ZOk.ta_le {base : Int} {ts : List (Int × Int)} (h : ZOk base ts) {i j : Nat} (hij : i ≤ j) (hj : j < ts.length) : ta ts i ≤ ta ts j := by
  by_cases e : i = j
  · subst e; omega
  · have := h.gap (i := i) (j := j) (by omega) hj; omega
theorem isnan_c (a : Int) (w : World) : Calls Tryz.prog 60 #[.int .i64 a] w fun e w' => e = .returned (.bool false) ∧ w = w' := by
  go_enter Tryz.func60, Tryz.ntmps60
  go_wp2
  go_ret
  exact ⟨ret_bool (by simp), rfl⟩
theorem compare_c (a b : Int) (w : World) : Calls Tryz.prog 35 #[.int .i64 a, .int .i64 b] w fun e w' => e = .returned (.int .i64 (cmpI a b)) ∧ w = w' := by
  unfold cmpI
  go_enter Tryz.func35, Tryz.ntmps35
  go_wp2_with (go_at_call 60; refine (isnan_c _ _).mono ?_; rintro e w' ⟨rfl, rfl⟩)
  all_goals (go_ret; exact ⟨ret_int (by simp_all), rfl⟩)
theorem cmpt_c (A O u : Int) (w : World) : Calls Tryz.prog 114 #[.agg #[.int .i64 A, .int .i64 O], .int .i64 u] w fun e w' => e = .returned (.int .i64 (cmpI A u)) ∧ Below w.heap.size w w' := by
  go_enter Tryz.func114, Tryz.ntmps114
  go_wp2_with (go_at_call 35; refine (compare_c _ _ _).mono ?_; rintro e w' ⟨rfl, rfl⟩)
  go_ret
  exact ⟨rfl, blw⟩
set_option maxHeartbeats 2000000 in
theorem bsf_c (base : Int) (a : Option Addr) (cap : Nat) (ts : List (Int × Int)) (u : Int) (w : World) (hr : Row 2 encT w a ts) (hz : ZOk base ts) :
    Calls Tryz.prog 113 #[.slice a ts.length cap, .int .i64 u, .func (.func 114) #[] #[]] w fun e w' =>
      (∃ i : Nat, i ≤ ts.length ∧ (∀ x, x < i → ta ts x < u) ∧ (∀ x, i ≤ x → x < ts.length → u ≤ ta ts x) ∧ e = .returned (.tuple #[.int .i64 i, .bool (decide (i < ts.length) && decide (ta ts i = u))])) ∧ Below w.heap.size w w' := by
  have hbig := hz.len
  have HZ := Hid.mk hz
  clear hz
  go_enter Tryz.func113, Tryz.ntmps113
  go_wp2
  go_loopw [9, 10] (fun l r wr => ∃ i j : Nat, i ≤ j ∧ j ≤ ts.length ∧ l = .int .i64 i ∧ r = .int .i64 j ∧ (∀ x, x < i → ta ts x < u) ∧ (∀ x, j ≤ x → x < ts.length → u ≤ ta ts x) ∧ Below w.heap.size w wr) (fun l r _ => (intOf r).toNat - (intOf l).toNat)
  case atStart => exact ⟨0, ts.length, Nat.zero_le _, Nat.le_refl _, rfl, rfl, fun x h => absurd h (Nat.not_lt_zero _), fun x h1 h2 => absurd h2 (by omega), Below.refl _ _⟩
  case round =>
    obtain ⟨i, j, hij, hj, rfl, rfl, hl, hh, hB⟩ := hrel
    have HLO := Hid.mk hl
    have HHI := Hid.mk hh
    clear hl hh
    by_cases hlt : i < j
    · obtain ⟨b, off, rfl, hcells⟩ := (hr.below hB).get (j := i) (by omega)
      obtain ⟨c0, c1⟩ := row_t hcells (k := (i + j) / 2) (by omega)
      have HC := Hid.mk hcells
      have HHR := Hid.mk hr
      clear hcells hr
      go_wp2_with (fail)
      have HH := Hid.mk (show (i + j) / 2 < ts.length by omega)
      refine (cmpt_c _ _ _ _).mono ?_
      rintro e w1 ⟨rfl, hb1⟩
      go_wp2_with (fail)
      · have h1 : cmpI (ta ts ((i + j) / 2)) u < 0 := by assumption
        have h2 := (cmpI_neg _ _).1 h1
        go_roundw
        case rel => exact ⟨(i + j) / 2 + 1, j, by omega, by omega, by go_num, rfl, fun x hx => Int.lt_of_le_of_lt (HZ.out.ta_le (show x ≤ (i + j) / 2 by omega) (by omega)) h2, HHI.out, bl_step hB hb1⟩
        case measure => simp [intOf]; omega
      · have h1 : 0 ≤ cmpI (ta ts ((i + j) / 2)) u := by assumption
        have h2 : u ≤ ta ts ((i + j) / 2) := by
          refine Int.le_of_not_gt fun h => ?_
          have := (cmpI_neg _ _).2 h; omega
        go_roundw
        case rel => exact ⟨i, (i + j) / 2, by omega, by omega, rfl, by go_num, HLO.out, fun x h1 hx => Int.le_trans h2 (HZ.out.ta_le (show (i + j) / 2 ≤ x by omega) hx), bl_step hB hb1⟩
        case measure => simp [intOf]; omega
    · obtain rfl : i = j := by omega
      by_cases hn : i < ts.length
      · obtain ⟨b, off, rfl, hcells⟩ := (hr.below hB).get hn
        obtain ⟨c0, c1⟩ := row_t hcells hn
        have d1 : decide (i < ts.length) = true := decide_eq_true hn
        go_wp2_with (fail)
        refine (cmpt_c _ _ _ _).mono ?_
        rintro e w1 ⟨rfl, hb1⟩
        go_wp2
        go_ret2
        exact ⟨⟨i, hj, HLO.out, fun x h1 h2 => HHI.out x h1 h2, by simp [hn]; rw [Bool.eq_iff_iff]; simp [cmpI_zero]⟩, bl_step hB hb1⟩
      · have d1 : decide (i < ts.length) = false := decide_eq_false hn
        go_wp2
        go_ret2
        exact ⟨⟨i, hj, HLO.out, fun x h1 h2 => HHI.out x h1 h2, by simp [hn]⟩, hB⟩
/-- the search, and one more if it was found: how many turns aren't behind the minute -/
theorem behind_c (base : Int) (a : Option Addr) (cap : Nat) (ts : List (Int × Int)) (u : Int) (w : World) (hr : Row 2 encT w a ts) (hz : ZOk base ts) :
    Calls Tryz.prog 80 #[.agg #[.int .i64 base, .slice a ts.length cap], .int .i64 u] w fun e w' => e = .returned (.int .i64 (nb ts u)) ∧ Below w.heap.size w w' := by
  have hbig := hz.len
  go_enter Tryz.func80, Tryz.ntmps80
  go_wp2_with (fail)
  refine (bsf_c base _ _ _ _ _ (hr.below (bl_alloc (Below.refl _ _) _)) hz).mono ?_
  rintro e w1 ⟨⟨i, hi, hl, hh, rfl⟩, hb1⟩
  by_cases hf : i < ts.length ∧ ta ts i = u
  · have hn : Hid (nb ts u = i + 1) := by
      refine nb_unique (by omega) (fun x hx => ?_) (fun h => ?_)
      · by_cases e : x = i
        · subst e; omega
        · have := hl x (by omega); omega
      · have := hz.gap (i := i) (j := i + 1) (by omega) h; omega
    rw [show (decide (i < ts.length) && decide (ta ts i = u)) = true by simp [hf]]
    clear hl hh hf hz hr
    go_wp2
    go_ret
    exact ⟨by rw [hn.out]; go_num, bl_step (bl_alloc (Below.refl _ _) _) hb1⟩
  · have hn : Hid (nb ts u = i) := by
      refine nb_unique hi (fun x hx => Int.le_of_lt (hl x hx)) (fun h => ?_)
      have := hh i (by omega) h; omega
    rw [show (decide (i < ts.length) && decide (ta ts i = u)) = false by simpa using hf]
    clear hl hh hf hz hr
    go_wp2
    go_ret
    exact ⟨ret_int (by rw [hn.out]), bl_step (bl_alloc (Below.refl _ _) _) hb1⟩
theorem added_c (base : Int) (a : Option Addr) (cap : Nat) (ts : List (Int × Int)) (n : Nat) (w : World) (hr : Row 2 encT w a ts) (hn : n ≤ ts.length) (hl : ts.length ≤ 1000000) :
    Calls Tryz.prog 115 #[.agg #[.int .i64 base, .slice a ts.length cap], .int .i64 n] w fun e w' => e = .returned (.int .i64 (added base ts n)) ∧ Below w.heap.size w w' := by
  cases n with
  | zero =>
    go_enter Tryz.func115, Tryz.ntmps115
    go_wp2
    go_ret
    exact ⟨by simp [added], blw⟩
  | succ n =>
    obtain ⟨b, off, rfl, hcells⟩ := hr.get (j := n) (by omega)
    obtain ⟨c0, c1⟩ := row_t hcells (k := n) (by omega)
    have hbz : b < w.heap.size := block_lt c0
    have h0 : (((n + 1 : Nat) : Int) == 0) = false := by simp; omega
    go_enter Tryz.func115, Tryz.ntmps115
    go_wp2
    go_ret
    exact ⟨by simp [added_at], blw⟩
end Go.Proofs.YthcngkcfopaigaaGreat

namespace Go.Proofs.YthcngkcfopaigaaGreat
open Go.RowKit
theorem from_c (base : Int) (a : Option Addr) (cap : Nat) (ts : List (Int × Int)) (l : Int) (n : Nat) (w : World) (hr : Row 2 encT w a ts) (hz : ZOk base ts) (hn : n ≤ ts.length) (h1 : -1000000000 ≤ l) (h2 : l ≤ 1000000000) :
    Calls Tryz.prog 81 #[.agg #[.int .i64 base, .slice a ts.length cap], .int .i64 l, .int .i64 n] w fun e w' => e = .returned (.tuple #[.int .i64 (l - added base ts n), .bool (zin base ts l n)]) ∧ Below w.heap.size w w' := by
  have ha := hz.added hn
  have HB := Hid.mk (behind_c base a cap ts (l - added base ts n))
  have hlen := hz.len
  have HZI : Hid (zin base ts l n = decide (nb ts (l - added base ts n) = n)) := rfl
  obtain ⟨a1, a2⟩ := ha
  have HA := Hid.mk (fun w hr => added_c base a cap ts n w hr hn (by omega))
  have HZ := Hid.mk hz
  have HR := Hid.mk hr
  clear hz hr
  generalize added base ts n = A at *
  have HCA : Hid ((((nb ts (l - A) : Nat) : Int) == (n : Int)) = decide (nb ts (l - A) = n)) := by unfold Hid; rw [Bool.eq_iff_iff]; simp; omega
  go_enter Tryz.func81, Tryz.ntmps81
  go_wp2_with (fail)
  refine (HA.out _ (HR.out.below (bl_alloc (Below.refl _ _) _))).mono ?_
  rintro e w1 ⟨rfl, hb1⟩
  have b0 := box_get hb1 0 rfl
  have b1 := box_get hb1 1 rfl
  have hb1' := bl_step (bl_alloc (Below.refl _ _) _) hb1
  go_wp2_with (fail)
  refine (HB.out _ (HR.out.below hb1') HZ.out).mono ?_
  rintro e w2 ⟨rfl, hb2⟩
  go_wp2
  go_ret2
  exact ⟨by rw [HZI.out, ← HCA.out]; rfl, bl_step hb1' hb2⟩
set_option maxRecDepth 100000 in
set_option maxHeartbeats 2000000 in
theorem gap_c (base : Int) (a : Option Addr) (cap : Nat) (ts : List (Int × Int)) (l : Int) (lo hi i : Nat) (w : World) (hr : Row 2 encT w a ts) (hz : ZOk base ts) (h1 : -1000000000 ≤ l) (h2 : l ≤ 1000000000)
    (hhi : hi ≤ ts.length) (hi1 : lo ≤ i) (hi2 : i < hi) (hg : zgap base ts l i = true) (hu : ∀ j, j < ts.length → zgap base ts l j = true → j = i) :
    Calls Tryz.prog 82 #[.agg #[.int .i64 base, .slice a ts.length cap], .int .i64 l, .int .i64 lo, .int .i64 hi] w fun e w' => e = .returned (.int .i64 (l - added base ts i)) ∧ Below w.heap.size w w' := by
  have hlen := hz.len
  have HG := Hid.mk hg
  have HU := Hid.mk hu
  have HZ := Hid.mk hz
  clear hg hu hz
  go_enter Tryz.func82, Tryz.ntmps82
  go_wp2
  go_loopw [9] (fun t wr => ∃ n : Nat, lo ≤ n ∧ n ≤ i ∧ t = .int .i64 n ∧ Below (w.alloc (.cells #[.int .i64 base, .slice a ts.length cap] 24)).heap.size (w.alloc (.cells #[.int .i64 base, .slice a ts.length cap] 24)) wr) (fun t _ => i - (intOf t).toNat)
  case atStart => exact ⟨lo, Nat.le_refl _, hi1, rfl, Below.refl _ _⟩
  case round =>
    obtain ⟨n, n1, n2, rfl, hB⟩ := hrel
    have hlt : n < hi := by omega
    have hB2 : Below w.heap.size w wr := bl_step (bl_alloc (Below.refl _ _) _) hB
    have hrn := hr.below hB2
    have b0 := box_get hB 0 rfl
    have b1 := box_get hB 1 rfl
    have HA := Hid.mk (fun w hr => added_c base a cap ts n w hr (by omega) (by omega))
    have HA1 := Hid.mk (fun w hr => added_c base a cap ts (n + 1) w hr (by omega) (by omega))
    have HB0 := Hid.mk (fun u w hr => behind_c base a cap ts u w hr HZ.out)
    have HT := Hid.mk (HZ.out.gap_test (l := l) (i := n) (by omega))
    obtain ⟨a1, a2⟩ := HZ.out.added (n := n) (by omega)
    obtain ⟨a3, a4⟩ := HZ.out.added (n := n + 1) (by omega)
    generalize ha0 : added base ts n = A at *
    generalize ha1 : added base ts (n + 1) = A1 at *
    have HA0 := Hid.mk ha0
    clear ha0 ha1
    have HRN := Hid.mk hrn
    have HR := Hid.mk hr
    clear hrn hr
    go_wp2_with (fail)
    refine (HA.out _ HRN.out).mono ?_
    rintro e w1 ⟨rfl, hb1⟩
    have hB3 := bl_step hB hb1
    have hB4 := bl_step hB2 hb1
    go_wp2_with (fail)
    have c0 := fun p : Wb w1 => box_get (bl_step hB3 p.2) 0 rfl
    have c1 := fun p : Wb w1 => box_get (bl_step hB3 p.2) 1 rfl
    have hq2 : n = i → n < nb ts (l - A) ∧ nb ts (l - A1) ≤ n := by
      intro e
      have := HT.out
      rw [e, HG.out] at this
      subst e
      simpa using this.symm
    have hq3 : n ≠ i → ¬ (n < nb ts (l - A) ∧ nb ts (l - A1) ≤ n) := by
      intro e hc
      have := HU.out n (by omega) (by rw [HT.out]; simpa using hc)
      exact e this
    by_cases hq : n < nb ts (l - A)
    · have dq : decide (n < nb ts (l - A)) = true := decide_eq_true hq
      refine wp_region_below (by kernel_rfl) (by kernel_rfl) ?_
      repeat (go_big_quiet_step (first | (go_at_call 80; exact wb_call _ (HB0.out _ _ (HR.out.below (bl_step hB4 (Wb.b _))))) | (go_at_call 115; exact wb_call _ (HA1.out _ (HR.out.below (bl_step hB4 (Wb.b _)))))))
      refine wpQuiet_nil ?_
      intro _ hw'
      obtain ⟨⟨w2, hb2⟩, rfl⟩ := hw'
      by_cases hr2 : nb ts (l - A1) ≤ n
      · have dr : decide (nb ts (l - A1) ≤ n) = true := decide_eq_true hr2
        have hni : n = i := by
          refine Decidable.byContradiction fun h => ?_
          exact hq3 h ⟨hq, hr2⟩
        clear hq2 hq3
        go_wp2
        go_ret
        exact ⟨ret_int (by rw [← hni, HA0.out]), bl_step hB4 hb2⟩
      · have dr : decide (nb ts (l - A1) ≤ n) = false := decide_eq_false hr2
        have hni : n ≠ i := fun h => hr2 (hq2 h).2
        clear hq2 hq3
        go_wp2
        go_roundw
        case rel => exact ⟨n + 1, by omega, by omega, by go_num, bl_step hB3 hb2⟩
        case measure => simp [intOf]; omega
    · have dq : decide (n < nb ts (l - A)) = false := decide_eq_false hq
      have hni : n ≠ i := fun h => hq (hq2 h).1
      clear hq2 hq3
      refine wp_region_below (by kernel_rfl) (by kernel_rfl) ?_
      repeat (go_big_quiet_step (first | (go_at_call 80; exact wb_call _ (HB0.out _ _ (HR.out.below (bl_step hB4 (Wb.b _))))) | (go_at_call 115; exact wb_call _ (HA1.out _ (HR.out.below (bl_step hB4 (Wb.b _)))))))
      refine wpQuiet_nil ?_
      intro _ hw'
      obtain ⟨⟨w2, hb2⟩, rfl⟩ := hw'
      go_wp2
      go_roundw
      case rel => exact ⟨n + 1, by omega, by omega, by go_num, bl_step hB3 hb2⟩
      case measure => simp [intOf]; omega
end Go.Proofs.YthcngkcfopaigaaGreat
