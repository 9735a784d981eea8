/- The walks of a walker's functions: the days of a period.
The walks of a walker's functions: the days at the places that a rule tells. -/
import Derived.Test.YthcngkcfopaigaaGreatK9
import Derived.Deep.RegionHeld3
namespace Go.Proofs.YthcngkcfopaigaaGreat
open Go.RowKit
/-- what a period hands back -/
def PerPost (w0 : World) (r : RuleV) (s q : Int) (e : Ending) (w' : World) : Prop := ∃ v, e = .returned (.tuple #[v, .bool (pmore r s q)]) ∧ Own w' w0.heap.size 3 v (plist r s q) ∧ Below w0.heap.size w0 w'
set_option maxRecDepth 100000 in
set_option maxHeartbeats 4000000 in
theorem period_1 (w0 w : World) (p : Nat) (r : RuleV) (a1 : Option Addr) (c1 : Nat) (a2 : Option Addr) (c2 : Nat) (a3 : Option Addr) (c3 : Nat) (a4 : Option Addr) (c4 : Nat) (s mi k : Int)
    (hw : WkAt w0 p r a1 c1 a2 c2 a3 c3 a4 c4 s mi) (hs0 : 0 ≤ s) (hs1 : s < 109938) (hB : Below w0.heap.size w0 w) (hq0 : 0 ≤ k * r.interval) (hq1 : k * r.interval ≤ 1000000) (hf : r.freq = 1) :
    Calls Tryz.prog 126 #[.pointer (some ⟨p, 0, none⟩), .int .i64 k] w (PerPost w0 r s (k * r.interval)) := by
  have k0 : w.cell? ⟨p, 0, none⟩ = some (.int .i64 r.freq) := (hw.below hB).cell 0 _ rfl
  have k1 : w.cell? ⟨p, 1, none⟩ = some (.int .i64 r.interval) := (hw.below hB).cell 1 _ rfl
  have k9 : w.cell? ⟨p, 9, none⟩ = some (.int .i64 s) := (hw.below hB).cell 9 _ rfl
  have KK := Hid.mk (fun w' (hb : Below w0.heap.size w0 w') => (hw.below hb).cell 9 _ rfl)
  rw [hf] at k0
  have hp := block_lt k0
  have HD := Hid.mk (fun w' (hb : Below w.heap.size w w') => days_c w0 w' p r a1 c1 a2 c2 a3 c3 a4 c4 s mi (s + k * r.interval) 1 (.slice none 0 0) [] hw hs0 hs1 (bl_step hB hb) (own_nil _ _ _) (by simp) (by omega) (by omega) (by omega) (by omega))
  have HP := Hid.mk (plist_daily (s := s) (p := k * r.interval) hf)
  have HM := Hid.mk (pmore_daily (s := s) (p := k * r.interval) hf)
  have hwr : IntKind.i64.wrap (s + k * r.interval) = s + k * r.interval := IntWalk.i64_in _ (by omega)
  clear hf hw
  go_enter Tryz.func126, Tryz.ntmps126
  try dsimp only [List.append]
  go_wp2
  go_region_held3 (fun w' => w'.cell? ⟨p, 9, none⟩ = some (.int .i64 s)) (first | go_keep | exact KK.out _ (by assumption)) ((go_at_call 132; (with_reducible refine (HD.out _ ?_).mono ?_); exact blw; rintro e w2 ⟨v2, rfl, ho2, hb2⟩; have hy := Hid.mk ho2; clear ho2))
  all_goals
    clear hwr
    go_wp2
    go_ret2
    exact ⟨v2, by rw [HM.out]; rfl, by rw [HP.out]; exact hy.out, hb2⟩
set_option maxRecDepth 100000 in
set_option maxHeartbeats 4000000 in
theorem period_2 (w0 w : World) (p : Nat) (r : RuleV) (a1 : Option Addr) (c1 : Nat) (a2 : Option Addr) (c2 : Nat) (a3 : Option Addr) (c3 : Nat) (a4 : Option Addr) (c4 : Nat) (s mi k : Int)
    (hw : WkAt w0 p r a1 c1 a2 c2 a3 c3 a4 c4 s mi) (hs0 : 0 ≤ s) (hs1 : s < 109938) (hB : Below w0.heap.size w0 w) (hq0 : 0 ≤ k * r.interval) (hq1 : k * r.interval ≤ 1000000) (hf : r.freq = 2) (hst0 : 0 ≤ r.start) (hst1 : r.start ≤ 6) :
    Calls Tryz.prog 126 #[.pointer (some ⟨p, 0, none⟩), .int .i64 k] w (PerPost w0 r s (k * r.interval)) := by
  have k0 : w.cell? ⟨p, 0, none⟩ = some (.int .i64 r.freq) := (hw.below hB).cell 0 _ rfl
  have k1 : w.cell? ⟨p, 1, none⟩ = some (.int .i64 r.interval) := (hw.below hB).cell 1 _ rfl
  have k8 : w.cell? ⟨p, 8, none⟩ = some (.int .i64 r.start) := (hw.below hB).cell 8 _ rfl
  have k9 : w.cell? ⟨p, 9, none⟩ = some (.int .i64 s) := (hw.below hB).cell 9 _ rfl
  rw [hf] at k0
  have hp := block_lt k0
  have HD := Hid.mk (fun w' (hb : Below w.heap.size w w') => days_c w0 w' p r a1 c1 a2 c2 a3 c3 a4 c4 s mi (s - (s - r.start) % 7 + 7 * (k * r.interval)) 7 (.slice none 0 0) [] hw hs0 hs1 (bl_step hB hb) (own_nil _ _ _) (by simp) (by omega) (by omega) (by omega) (by omega))
  have e7 : into r s = (s - r.start) % 7 := by unfold into; omega
  have HP := Hid.mk (plist_weekly (s := s) (p := k * r.interval) hf)
  have HM := Hid.mk (pmore_weekly (s := s) (p := k * r.interval) hf)
  rw [e7] at HP HM
  clear e7
  have hwr0 : IntKind.i64.wrap (s % 7 - r.start) = s % 7 - r.start := IntWalk.i64_in _ (by omega)
  have hwr1 : IntKind.i64.wrap (s - (s % 7 - r.start) % 7) = s - (s % 7 - r.start) % 7 := IntWalk.i64_in _ (by omega)
  have hwr2 : IntKind.i64.wrap (7 * (k * r.interval)) = 7 * (k * r.interval) := IntWalk.i64_in _ (by omega)
  have hwr3 : IntKind.i64.wrap (s - (s % 7 - r.start) % 7 + 7 * (k * r.interval)) = s - (s % 7 - r.start) % 7 + 7 * (k * r.interval) := IntWalk.i64_in _ (by omega)
  have W1 := Hid.mk (fun w' => weekday_c s w' (by omega) (by omega))
  have W2 := Hid.mk (fun w' => weekday_c (s % 7 - r.start) w' (by omega) (by omega))
  clear hf hw
  go_enter Tryz.func126, Tryz.ntmps126
  try dsimp only [List.append]
  go_wp2
  go_quiet ((go_at_call 133; (first | exact Calls.quiet_of_same ((W1.out _).mono fun _ _ h => ⟨h.1, h.2.symm⟩) | exact Calls.quiet_of_same ((W2.out _).mono fun _ _ h => ⟨h.1, h.2.symm⟩))))
  clear hwr0 hwr1 hwr2 hwr3
  go_wp2_with (go_at_call 132; (with_reducible refine (HD.out _ ?_).mono ?_); exact blw; rintro e w2 ⟨v2, rfl, ho2, hb2⟩; have hy := Hid.mk ho2; clear ho2)
  go_ret2
  exact ⟨v2, by rw [HM.out]; rfl, by rw [HP.out]; exact hy.out, hb2⟩
set_option maxRecDepth 100000 in
set_option maxHeartbeats 4000000 in
theorem period_3 (w0 w : World) (p : Nat) (r : RuleV) (a1 : Option Addr) (c1 : Nat) (a2 : Option Addr) (c2 : Nat) (a3 : Option Addr) (c3 : Nat) (a4 : Option Addr) (c4 : Nat) (s mi k : Int)
    (hw : WkAt w0 p r a1 c1 a2 c2 a3 c3 a4 c4 s mi) (hs0 : 0 ≤ s) (hs1 : s < 109938) (hB : Below w0.heap.size w0 w) (hq0 : 0 ≤ k * r.interval) (hq1 : k * r.interval ≤ 1000000) (hf : r.freq = 3) :
    Calls Tryz.prog 126 #[.pointer (some ⟨p, 0, none⟩), .int .i64 k] w (PerPost w0 r s (k * r.interval)) := by
  have k0 : w.cell? ⟨p, 0, none⟩ = some (.int .i64 r.freq) := (hw.below hB).cell 0 _ rfl
  have k1 : w.cell? ⟨p, 1, none⟩ = some (.int .i64 r.interval) := (hw.below hB).cell 1 _ rfl
  have k10 : w.cell? ⟨p, 10, none⟩ = some (.int .i64 (yr s)) := (hw.below hB).cell 10 _ rfl
  have k11 : w.cell? ⟨p, 11, none⟩ = some (.int .i64 (mo s)) := (hw.below hB).cell 11 _ rfl
  rw [hf] at k0
  have hp := block_lt k0
  obtain ⟨y0, y1, m0, m1, -⟩ := dat_spec hs0 hs1
  have HD := Hid.mk (fun w' (hb : Below w.heap.size w w') => month_c w0 w' p r a1 c1 a2 c2 a3 c3 a4 c4 s mi ((12 * yr s + mo s - 1 + k * r.interval) / 12) ((12 * yr s + mo s - 1 + k * r.interval) % 12 + 1) (.slice none 0 0) [] hw hs0 hs1 (bl_step hB hb) (own_nil _ _ _) (by simp) (by omega) (by omega) (by omega) (by omega))
  have HP := Hid.mk (plist_monthly (s := s) (p := k * r.interval) hf)
  have HM := Hid.mk (pmore_monthly (s := s) (p := k * r.interval) hf)
  generalize yr s = Y at *
  generalize mo s = M at *
  have hwr0 : IntKind.i64.wrap (12 * Y) = 12 * Y := IntWalk.i64_in _ (by omega)
  have hwr1 : IntKind.i64.wrap (12 * Y + M) = 12 * Y + M := IntWalk.i64_in _ (by omega)
  have hwr2 : IntKind.i64.wrap (12 * Y + M - 1) = 12 * Y + M - 1 := IntWalk.i64_in _ (by omega)
  have hwr3 : IntKind.i64.wrap (12 * Y + M - 1 + k * r.interval) = 12 * Y + M - 1 + k * r.interval := IntWalk.i64_in _ (by omega)
  clear hf hw
  go_enter Tryz.func126, Tryz.ntmps126
  try dsimp only [List.append]
  go_wp2
  go_quiet (fail)
  clear hwr0 hwr1 hwr2 hwr3
  go_wp2_with (go_at_call 134; (with_reducible refine (HD.out _ ?_).mono ?_); exact blw; rintro e w2 ⟨v2, rfl, ho2, hb2⟩; have hy := Hid.mk ho2; clear ho2)
  go_ret2
  exact ⟨v2, by rw [HM.out]; rfl, by rw [HP.out]; exact hy.out, hb2⟩
set_option maxRecDepth 100000 in
set_option maxHeartbeats 4000000 in
theorem period_4 (w0 w : World) (p : Nat) (r : RuleV) (a1 : Option Addr) (c1 : Nat) (a2 : Option Addr) (c2 : Nat) (a3 : Option Addr) (c3 : Nat) (a4 : Option Addr) (c4 : Nat) (s mi k : Int)
    (hw : WkAt w0 p r a1 c1 a2 c2 a3 c3 a4 c4 s mi) (hs0 : 0 ≤ s) (hs1 : s < 109938) (hB : Below w0.heap.size w0 w) (hq0 : 0 ≤ k * r.interval) (hq1 : k * r.interval ≤ 150000) (hf : r.freq = 4) :
    Calls Tryz.prog 126 #[.pointer (some ⟨p, 0, none⟩), .int .i64 k] w (PerPost w0 r s (k * r.interval)) := by
  have k0 : w.cell? ⟨p, 0, none⟩ = some (.int .i64 r.freq) := (hw.below hB).cell 0 _ rfl
  have k1 : w.cell? ⟨p, 1, none⟩ = some (.int .i64 r.interval) := (hw.below hB).cell 1 _ rfl
  have k10 : w.cell? ⟨p, 10, none⟩ = some (.int .i64 (yr s)) := (hw.below hB).cell 10 _ rfl
  rw [hf] at k0
  have hp := block_lt k0
  obtain ⟨y0, y1, -⟩ := dat_spec hs0 hs1
  have HP := Hid.mk (plist_yearly (r := r) (s := s) (p := k * r.interval) (by omega) (by omega) (by omega))
  have HM := Hid.mk (pmore_yearly (r := r) (s := s) (p := k * r.interval) (by omega) (by omega) (by omega))
  generalize yr s = Y at *
  have HW := Hid.mk hw
  clear hf hw
  go_enter Tryz.func126, Tryz.ntmps126
  try dsimp only [List.append]
  go_wp2
  go_loopw [10, 102] (fun v i wr => ∃ j : Nat, j ≤ 12 ∧ i = .int .i64 j ∧ Own wr w0.heap.size 3 v (ydays r s (Y + k * r.interval) j) ∧ Below w0.heap.size w0 wr) (fun _ i _ => 12 - (intOf i).toNat)
  case atStart => exact ⟨0, by omega, rfl, by rw [ydays_zero]; exact own_nil _ _ _, hB⟩
  case round =>
    obtain ⟨j, hj, rfl, ho, hB'⟩ := hrel
    by_cases hlt : j < 12
    · have HD := Hid.mk (month_c w0 wr p r a1 c1 a2 c2 a3 c3 a4 c4 s mi (Y + k * r.interval) ((j : Int) + 1) _ _ HW.out hs0 hs1 hB' ho (by have := ydays_length r s (Y + k * r.interval) j hj; omega) (by omega) (by omega) (by omega) (by omega))
      have HE := Hid.mk (ydays_succ r s (Y + k * r.interval) hlt)
      clear ho
      go_wp2_with (go_at_call 134; (with_reducible refine HD.out.mono ?_); rintro e w2 ⟨v2, rfl, ho2, hb2⟩; have hy := Hid.mk ho2; clear ho2)
      go_roundw
      case rel => exact ⟨j + 1, by omega, by go_num, by rw [HE.out]; exact hy.out, hb2⟩
      case measure => simp [intOf]; omega
    · obtain rfl : j = 12 := by omega
      have hy := Hid.mk ho
      clear ho
      go_wp2
      go_ret2
      exact ⟨_, by rw [HM.out]; rfl, by rw [HP.out]; exact hy.out, hB'⟩
theorem period_c (w0 w : World) (p : Nat) (r : RuleV) (a1 : Option Addr) (c1 : Nat) (a2 : Option Addr) (c2 : Nat) (a3 : Option Addr) (c3 : Nat) (a4 : Option Addr) (c4 : Nat) (s mi k : Int)
    (hw : WkAt w0 p r a1 c1 a2 c2 a3 c3 a4 c4 s mi) (hs0 : 0 ≤ s) (hs1 : s < 109938) (hB : Below w0.heap.size w0 w) (hq0 : 0 ≤ k * r.interval) (hq1 : k * r.interval ≤ 150000) (hf1 : 1 ≤ r.freq) (hf4 : r.freq ≤ 4) (hst0 : 0 ≤ r.start) (hst1 : r.start ≤ 6) :
    Calls Tryz.prog 126 #[.pointer (some ⟨p, 0, none⟩), .int .i64 k] w (PerPost w0 r s (k * r.interval)) := by
  have h : r.freq = 1 ∨ r.freq = 2 ∨ r.freq = 3 ∨ r.freq = 4 := by omega
  rcases h with h | h | h | h
  · exact period_1 w0 w p r a1 c1 a2 c2 a3 c3 a4 c4 s mi k hw hs0 hs1 hB hq0 (by omega) h
  · exact period_2 w0 w p r a1 c1 a2 c2 a3 c3 a4 c4 s mi k hw hs0 hs1 hB hq0 (by omega) h hst0 hst1
  · exact period_3 w0 w p r a1 c1 a2 c2 a3 c3 a4 c4 s mi k hw hs0 hs1 hB hq0 (by omega) h
  · exact period_4 w0 w p r a1 c1 a2 c2 a3 c3 a4 c4 s mi k hw hs0 hs1 hB hq0 hq1 h
end Go.Proofs.YthcngkcfopaigaaGreat

namespace Go.Proofs.YthcngkcfopaigaaGreat
open Go.RowKit
theorem own_base {w : World} {b b' : Nat} {e : TypeId} {v : Value} {xs : List Int} (h : Own w b' e v xs) (hb : b ≤ b') : Own w b e v xs :=
  ⟨h.1, h.2.imp id (fun ⟨g, cap, cur, h1, h2, h3, h4⟩ => ⟨g, cap, cur, h1, Nat.le_trans hb h2, h3, h4⟩)⟩
theorem own_ints {w : World} {b : Nat} {e : TypeId} {v : Value} {xs : List Int} (h : Own w b e v xs) : ∃ a cap, v = .slice a xs.length cap ∧ Ints w a xs := by
  obtain ⟨hl, ⟨rfl, h0⟩ | ⟨g, cap, cur, rfl, hg, hh, h1, h2, h3, h4⟩⟩ := h
  · refine ⟨none, 0, by rw [h0], ?_, ?_⟩
    · intro hne; exact absurd (List.length_eq_zero_iff.1 h0) hne
    · intro b off e; cases e
  · refine ⟨some ⟨g, 0, none⟩, cap, rfl, fun _ => ⟨g, 0, rfl⟩, ?_⟩
    intro b' off he j hj
    cases he
    refine blk_cell hh _ ?_
    rw [Nat.zero_add]
    have hx : (cur.toList.take (xs.length * 1))[j]? = some (.int .i64 (xs[j]?.getD 0)) := by rw [h4]; simp [hj]
    rw [List.getElem?_take_of_lt (by omega)] at hx
    rw [← Array.getElem?_toList]; exact hx
set_option maxRecDepth 100000 in
set_option maxHeartbeats 4000000 in
theorem places_c (w0 w : World) (p : Nat) (r : RuleV) (a1 : Option Addr) (c1 : Nat) (a2 : Option Addr) (c2 : Nat) (a3 : Option Addr) (c3 : Nat) (a4 : Option Addr) (c4 : Nat) (s mi : Int) (v : Value) (l : List Int)
    (hw : WkAt w0 p r a1 c1 a2 c2 a3 c3 a4 c4 s mi) (hB : Below w0.heap.size w0 w) (hown : Own w w0.heap.size 3 v l) (hl : l.length ≤ 1000000) :
    Calls Tryz.prog 127 #[.pointer (some ⟨p, 0, none⟩), v] w fun e w' =>
      ∃ v', e = .returned v' ∧ Own w' w0.heap.size 3 v' (kept r l) ∧ Below w0.heap.size w0 w' := by
  have k0 : w.cell? ⟨p, 0, none⟩ = some (.int .i64 r.freq) := (hw.below hB).cell 0 _ rfl
  have k7 : w.cell? ⟨p, 7, none⟩ = some (.slice a4 r.bySetPos.length c4) := (hw.below hB).cell 7 _ rfl
  have hp := block_lt k0
  have n4 := hw.rule.b4
  obtain ⟨a, cap, rfl, hi⟩ := own_ints hown
  have HO := Hid.mk hown
  clear hown
  by_cases g : r.bySetPos.length = 0
  · have e1 : ((r.bySetPos.length : Int) == 0) = true := by rw [g]; rfl
    have HK : Hid (kept r l = l) := by unfold Hid kept; rw [if_pos g]
    clear g hi hw
    go_enter Tryz.func127, Tryz.ntmps127
    try dsimp only [List.append]
    go_wp2
    go_ret
    exact ⟨_, rfl, by rw [HK.out]; exact HO.out, hB⟩
  · have e1 : ((r.bySetPos.length : Int) == 0) = false := by simp; intro h; rw [h] at g; simp at g
    have HK : Hid (kept r l = keptTo r l l.length) := by unfold Hid kept; rw [if_neg g]
    have HC := Hid.mk (fun w' x (hb : Below w.heap.size w w') => contains_c a4 c4 r.bySetPos x w' ((hw.below hB).rule.below hb).r4 (by omega))
    clear g hw
    go_enter Tryz.func127, Tryz.ntmps127
    try dsimp only [List.append]
    go_wp2
    go_loopw [5, 18] (fun v i wr => ∃ k : Nat, k ≤ l.length ∧ i = .int .i64 k ∧ Own wr w.heap.size 3 v (keptTo r l k) ∧ Below w.heap.size w wr) (fun _ i _ => l.length - (intOf i).toNat)
    case atStart => exact ⟨0, by omega, rfl, own_nil _ _ _, Below.refl _ _⟩
    case round =>
      obtain ⟨k, hk, rfl, ho, hB'⟩ := hrel
      by_cases hlt : k < l.length
      · have d1 : decide (k < l.length) = true := decide_eq_true hlt
        obtain ⟨b, off, rfl, hcells⟩ := (hi.below hB').ig hlt
        have c0 := hcells k hlt
        have hbz := block_lt c0
        have k7' := below_get hB' k7
        have hlen := keptTo_length r l k
        have HE := Hid.mk (keptTo_succ r l k)
        have HY := Hid.mk ho
        have HC1 := Hid.mk (HC.out wr ((k : Int) + 1) hB')
        have HC2 := Hid.mk (HC.out wr ((k : Int) - (l.length : Int)) hB')
        have HKA := Hid.mk (show keepAt r l.length k = (has r.bySetPos ((k : Int) + 1) || has r.bySetPos ((k : Int) - (l.length : Int))) from rfl)
        clear ho hcells
        generalize ig l k = X at *
        generalize keptTo r l k = ys at *
        generalize keepAt r l.length k = ka at *
        have hcases : (has r.bySetPos ((k : Int) + 1) = true) ∨ (has r.bySetPos ((k : Int) + 1) = false ∧ has r.bySetPos ((k : Int) - (l.length : Int)) = true) ∨ (has r.bySetPos ((k : Int) + 1) = false ∧ has r.bySetPos ((k : Int) - (l.length : Int)) = false) := by
          cases has r.bySetPos ((k : Int) + 1) <;> cases has r.bySetPos ((k : Int) - (l.length : Int)) <;> simp
        rcases hcases with h1 | ⟨h1, h2⟩ | ⟨h1, h2⟩
        · have HT : Hid (ka = true) := by unfold Hid; rw [HKA.out, h1]; rfl
          rw [h1] at HC1
          clear h1
          go_wp2_with (first | (go_at_call 135; (with_reducible refine HC1.out.mono ?_); rintro e w' ⟨rfl, rfl⟩) | (at_builtin; refine own_append info_int Tryz.underlying25 rfl _ _ rfl w.heap.size _ ys X _ rfl ?c1 rfl ?c2 ?c3 ?c4 ?_))
          case c1 => exact HY.out.alloc _
          case c2 => rw [World.cell?_alloc_at _ _ _ _ (by simp)]; rfl
          case c3 => omega
          case c4 => have := hB'.size; simp; omega
          intro v' w4 ho4 hb4
          have hz4 := (bl_alloc (a := w) hB' (.cells #[.int .i64 X] 3)).trans hb4
          go_wp2
          go_roundw
          case rel => exact ⟨k + 1, by omega, by go_num, by rw [HE.out, HT.out]; exact ho4, hz4⟩
          case measure => simp [intOf]; omega
        · have HT : Hid (ka = true) := by unfold Hid; rw [HKA.out, h1, h2]; rfl
          rw [h1] at HC1
          rw [h2] at HC2
          clear h1 h2
          go_wp2_with (first | (go_at_call 135; (with_reducible refine HC1.out.mono ?_); rintro e w' ⟨rfl, rfl⟩) | (go_at_call 135; (with_reducible refine HC2.out.mono ?_); rintro e w' ⟨rfl, rfl⟩) | (at_builtin; refine own_append info_int Tryz.underlying25 rfl _ _ rfl w.heap.size _ ys X _ rfl ?c1 rfl ?c2 ?c3 ?c4 ?_))
          case c1 => exact HY.out.alloc _
          case c2 => rw [World.cell?_alloc_at _ _ _ _ (by simp)]; rfl
          case c3 => omega
          case c4 => have := hB'.size; simp; omega
          intro v' w4 ho4 hb4
          have hz4 := (bl_alloc (a := w) hB' (.cells #[.int .i64 X] 3)).trans hb4
          go_wp2
          go_roundw
          case rel => exact ⟨k + 1, by omega, by go_num, by rw [HE.out, HT.out]; exact ho4, hz4⟩
          case measure => simp [intOf]; omega
        · have HT : Hid (ka = false) := by unfold Hid; rw [HKA.out, h1, h2]; rfl
          rw [h1] at HC1
          rw [h2] at HC2
          clear h1 h2
          go_wp2_with (first | (go_at_call 135; (with_reducible refine HC1.out.mono ?_); rintro e w' ⟨rfl, rfl⟩) | (go_at_call 135; (with_reducible refine HC2.out.mono ?_); rintro e w' ⟨rfl, rfl⟩))
          go_roundw
          case rel => exact ⟨k + 1, by omega, by go_num, by rw [HE.out, HT.out]; simp; exact HY.out, hB'⟩
          case measure => simp [intOf]; omega
      · obtain rfl : k = l.length := by omega
        have HY := Hid.mk ho
        clear ho
        go_wp2
        go_ret
        exact ⟨_, rfl, by rw [HK.out]; exact own_base HY.out hB.size, bl_step hB hB'⟩
end Go.Proofs.YthcngkcfopaigaaGreat
