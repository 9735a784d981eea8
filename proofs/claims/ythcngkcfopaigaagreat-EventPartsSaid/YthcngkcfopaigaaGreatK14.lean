/- The walks of recurrence: a walker is made; the period ahead of which there is nothing. -/
import Derived.Test.YthcngkcfopaigaaGreatK13
import Derived.Maps.Own
import Derived.Maps.OwnOps
namespace Go.Proofs.YthcngkcfopaigaaGreat
open Go.RowKit Go.Maps
theorem blk_new2 (w : World) (o1 o2 : Obj) : ((w.alloc o1).alloc o2).heap[w.heap.size + 1]? = some o2 := by have := blk_new (w.alloc o1) o2; simpa using this
set_option maxRecDepth 100000 in
set_option maxHeartbeats 4000000 in
theorem walk_no (w : World) (r : RuleV) (a1 : Option Addr) (c1 : Nat) (a2 : Option Addr) (c2 : Nat) (a3 : Option Addr) (c3 : Nat) (a4 : Option Addr) (c4 : Nat) (st : Int)
    (hr : RuleAt w r a1 a2 a3 a4) (h : ¬ (rmay r = true ∧ 0 ≤ st ∧ st < 158310720)) :
    Calls Tryz.prog 73 #[.agg (ruleC r a1 c1 a2 c2 a3 c3 a4 c4), .int .i64 st] w fun e w' => e = .returned (.tuple #[.pointer none, .bool false]) ∧ Below w.heap.size w w' := by
  have HM := Hid.mk (fun w' (hb : Below w.heap.size w w') => rmay_c r a1 c1 a2 c2 a3 c3 a4 c4 w' (hr.below hb))
  clear hr
  have hc : rmay r = false ∨ (rmay r = true ∧ st < 0) ∨ (rmay r = true ∧ 0 ≤ st ∧ 158310720 ≤ st) := by
    cases hm : rmay r with
    | false => exact .inl rfl
    | true =>
      right
      by_cases h0 : 0 ≤ st
      · exact .inr ⟨rfl, h0, by by_cases h2 : st < 158310720; exact absurd ⟨hm, h0, h2⟩ h; omega⟩
      · exact .inl ⟨rfl, by omega⟩
  clear h
  rcases hc with hm | ⟨hm, h1⟩ | ⟨hm, h1, h2⟩
  all_goals
    rw [hm] at HM
    clear hm
    go_enter Tryz.func73, Tryz.ntmps73
    try dsimp only [List.append]
    go_wp2_with (go_at_call 22; (refine (HM.out _ ?_).mono ?_); exact blw; rintro e w1 ⟨rfl, hb1⟩)
    go_ret2
    exact ⟨rfl, bl_step blw hb1⟩
set_option maxRecDepth 100000 in
set_option maxHeartbeats 4000000 in
theorem walk_yes (w : World) (r : RuleV) (a1 : Option Addr) (c1 : Nat) (a2 : Option Addr) (c2 : Nat) (a3 : Option Addr) (c3 : Nat) (a4 : Option Addr) (c4 : Nat) (st : Int)
    (hr : RuleAt w r a1 a2 a3 a4) (hm : rmay r = true) (h0 : 0 ≤ st) (h1 : st < 158310720) :
    Calls Tryz.prog 73 #[.agg (ruleC r a1 c1 a2 c2 a3 c3 a4 c4), .int .i64 st] w fun e w' => ∃ p, e = .returned (.tuple #[.pointer (some ⟨p, 0, none⟩), .bool true]) ∧ Below w.heap.size w w' ∧ w.heap.size ≤ p ∧
      w'.heap[p]? = some (.cells (walkC r a1 c1 a2 c2 a3 c3 a4 c4 (st / 1440) (st % 1440)) 135 (0, 0)) := by
  have HM := Hid.mk (fun w' (hb : Below w.heap.size w w') => rmay_c r a1 c1 a2 c2 a3 c3 a4 c4 w' (hr.below hb))
  have HDt := Hid.mk (fun w' => date_c (st / 1440) w' (by omega) (by omega))
  rw [dateV_eq] at HDt
  have n1 := hr.b1
  clear hr
  rw [hm] at HM
  clear hm
  go_enter Tryz.func73, Tryz.ntmps73
  try dsimp only [List.append]
  go_wp2_with (first | (go_at_call 22; (refine (HM.out _ ?_).mono ?_); exact blw; rintro e w1 ⟨rfl, hb1⟩) | (go_at_call 101; (refine (HDt.out _).mono ?_); rintro e w2 ⟨rfl, hb2⟩; have hb3 := bl_step hb1 hb2; have q0 := box_get hb3 0 rfl; have q1 := box_get hb3 1 rfl; have q2 := box_get hb3 2 rfl; have q3 := box_get hb3 3 rfl; have q4 := box_get hb3 4 rfl; have q5 := box_get hb3 5 rfl; have q6 := box_get hb3 6 rfl; have q7 := box_get hb3 7 rfl; have q8 := box_get hb3 8 rfl; have hz := Nat.lt_of_lt_of_le (Nat.lt_succ_self _) (show w.heap.size + 1 ≤ w2.heap.size by have := hb3.size; simp at this; omega)))
  go_ret2
  exact ⟨_, rfl, bl_alloc (bl_alloc (bl_step blw hb3) _) _, by omega, blk_new2 _ _ _⟩
theorem below_of_own {w w' : World} {b n : Nat} (hb : b ≤ n) (hn : b ≤ w.heap.size) (h : w.grownBy w' (some n)) : Below b w w' :=
  (Below.refl b w).grown h hn (fun k e => by cases e; exact hb)
theorem map_made (w : World) : ∃ w1 w2 w3 w4 : World,
    (Instr.mapUpdate 137 (.map (some w.heap.size)) (.int .i64 1) (.int .i64 1)).run Tryz.prog (w.alloc (.map #[] 0)) = .ok () w1 ∧
    (Instr.mapUpdate 137 (.map (some w.heap.size)) (.int .i64 2) (.int .i64 7)).run Tryz.prog w1 = .ok () w2 ∧
    (Instr.mapUpdate 137 (.map (some w.heap.size)) (.int .i64 3) (.int .i64 31)).run Tryz.prog w2 = .ok () w3 ∧
    (Instr.mapUpdate 137 (.map (some w.heap.size)) (.int .i64 4) (.int .i64 366)).run Tryz.prog w3 = .ok () w4 ∧
    Below w.heap.size w w4 ∧
    (Instr.lookup 137 (.map (some w.heap.size)) (.int .i64 1) false).run Tryz.prog w4 = .ok (.int .i64 1) w4 ∧
    (Instr.lookup 137 (.map (some w.heap.size)) (.int .i64 2) false).run Tryz.prog w4 = .ok (.int .i64 7) w4 ∧
    (Instr.lookup 137 (.map (some w.heap.size)) (.int .i64 3) false).run Tryz.prog w4 = .ok (.int .i64 31) w4 ∧
    (Instr.lookup 137 (.map (some w.heap.size)) (.int .i64 4) false).run Tryz.prog w4 = .ok (.int .i64 366) w4 := by
  have K : Maps.Keyed Tryz.prog 3 := Maps.int_keyed Tryz.underlying3
  have ht := Tryz.underlying137
  have hk : ∀ a : Int, (Lit.int .i64 a).wf = true → keyOf Tryz.prog 3 (.int .i64 a) = some (.int .i64 a) := fun a h => Maps.keyOf_int_mk Tryz.underlying3 h
  have hv : ∀ a : Int, (Lit.int .i64 a).wf = true → plainElem (H := Unit) Tryz.prog 3 (.int .i64 a) = some (.lit (.int .i64 a), []) := fun a h => plainElem_int Tryz.underlying3 h
  have hm : (4 : Nat) < maxLen := by decide
  have h0 := World.ownsMap_made (H := Unit) w Tryz.prog 3 (plainElem Tryz.prog 3)
  obtain ⟨w1, r1, o1, g1⟩ := h0.update K ht (by omega) (hk 1 (by decide)) (hv 1 (by decide))
  obtain ⟨w2, r2, o2, g2⟩ := o1.update K ht (by omega) (hk 2 (by decide)) (hv 7 (by decide))
  obtain ⟨w3, r3, o3, g3⟩ := o2.update K ht (by omega) (hk 3 (by decide)) (hv 31 (by decide))
  obtain ⟨w4, r4, o4, g4⟩ := o3.update K ht (by omega) (hk 4 (by decide)) (hv 366 (by decide))
  have s0 : w.heap.size ≤ (w.alloc (.map #[] 0)).heap.size := by simp
  have s1 := Nat.le_trans s0 g1.size
  have s2 := Nat.le_trans s1 g2.size
  have s3 := Nat.le_trans s2 g3.size
  have hb : Below w.heap.size w w4 := ((((bl_alloc (Below.refl _ w) _).trans (below_of_own (Nat.le_refl _) s0 g1)).trans (below_of_own (Nat.le_refl _) s1 g2)).trans (below_of_own (Nat.le_refl _) s2 g3)).trans (below_of_own (Nat.le_refl _) s3 g4)
  have look : ∀ a c : Int, (Lit.int .i64 a).wf = true → ((((((DataW.map []).put (.int .i64 1) (.lit (.int .i64 1))).put (.int .i64 2) (.lit (.int .i64 7))).put (.int .i64 3) (.lit (.int .i64 31))).put (.int .i64 4) (.lit (.int .i64 366))) : DataW Unit).atKey (.int .i64 a) (.lit (.int .i64 0)) = .lit (.int .i64 c) →
      (Instr.lookup 137 (.map (some w.heap.size)) (.int .i64 a) false).run Tryz.prog w4 = .ok (.int .i64 c) w4 := by
    intro a c ha hc
    obtain ⟨c', hr, hat, _⟩ := o4.lookup_int K ht Tryz.underlying3 (by kernel_rfl) (hk a ha)
    rw [hc] at hat
    cases hat
    exact hr
  exact ⟨w1, w2, w3, w4, r1, r2, r3, r4, hb, look 1 1 (by decide) (by rfl), look 2 7 (by decide) (by rfl), look 3 31 (by decide) (by rfl), look 4 366 (by decide) (by rfl)⟩
set_option maxRecDepth 100000 in
set_option maxHeartbeats 4000000 in
theorem kfirst_c (w : World) (p : Nat) (r : RuleV) (a1 : Option Addr) (c1 : Nat) (a2 : Option Addr) (c2 : Nat) (a3 : Option Addr) (c3 : Nat) (a4 : Option Addr) (c4 : Nat) (s mi f : Int)
    (hw : WkAt w p r a1 c1 a2 c2 a3 c3 a4 c4 s mi) (hs0 : 0 ≤ s) (hs1 : s < 109938) (hi1 : 1 ≤ r.interval) (hi2 : r.interval ≤ 999) (hf1 : 1 ≤ r.freq) (hf4 : r.freq ≤ 4) (h0 : 0 ≤ f) (h1 : f ≤ 158310720) :
    Calls Tryz.prog 75 #[.pointer (some ⟨p, 0, none⟩), .int .i64 f] w fun e w' => e = .returned (.int .i64 (kfirst r s f)) ∧ Below w.heap.size w w' := by
  have k0 : w.cell? ⟨p, 0, none⟩ = some (.int .i64 r.freq) := hw.cell 0 _ rfl
  have k1 : w.cell? ⟨p, 1, none⟩ = some (.int .i64 r.interval) := hw.cell 1 _ rfl
  have k2 : w.cell? ⟨p, 2, none⟩ = some (.int .i64 r.count) := hw.cell 2 _ rfl
  have k9 : w.cell? ⟨p, 9, none⟩ = some (.int .i64 s) := hw.cell 9 _ rfl
  have hp := block_lt k0
  clear hw
  have HV := Hid.mk (show kfirst r s f = if 0 < r.count ∨ f / 1440 - s ≤ 0 then 0 else max ((f / 1440 - s) / (plong r * r.interval) - 1) 0 from rfl)
  generalize kfirst r s f = v at *
  by_cases g1 : 0 < r.count
  · have d1 := decide_eq_true g1
    have HF : Hid (v = 0) := by unfold Hid; rw [HV.out, if_pos (.inl g1)]
    go_enter Tryz.func75, Tryz.ntmps75
    try dsimp only [List.append]
    go_wp2
    go_ret
    exact ⟨ret_int HF.out.symm, blw⟩
  have d1 := decide_eq_false g1
  by_cases g2 : f / 1440 - s ≤ 0
  · have d2 := decide_eq_true g2
    have HF : Hid (v = 0) := by unfold Hid; rw [HV.out, if_pos (.inr g2)]
    go_enter Tryz.func75, Tryz.ntmps75
    try dsimp only [List.append]
    go_wp2
    go_ret
    exact ⟨ret_int HF.out.symm, blw⟩
  have d2 := decide_eq_false g2
  have hmm := @run_makeMap Tryz.prog
  obtain ⟨w1, w2, w3, w4, r1, r2, r3, r4, hb4, l1, l2, l3, l4⟩ := map_made w
  have k0' := below_get hb4 k0
  have k1' := below_get hb4 k1
  have hfq : r.freq = 1 ∨ r.freq = 2 ∨ r.freq = 3 ∨ r.freq = 4 := by omega
  have hpos : 0 ≤ f / 1440 - s := by omega
  have hup : f / 1440 - s ≤ 109938 := by omega
  rcases hfq with hf | hfq
  · rw [hf] at k0 k0'
    have HF : Hid (v = max ((f / 1440 - s) / r.interval - 1) 0) := by
      unfold Hid; rw [HV.out, if_neg (by omega)]; unfold plong; rw [hf]; simp
    have hq0 : 0 ≤ (f / 1440 - s) / r.interval := Int.ediv_nonneg hpos (by omega)
    have hq1 : (f / 1440 - s) / r.interval ≤ 109938 := Int.le_trans (Int.ediv_le_self _ hpos) hup
    clear hf
    go_enter Tryz.func75, Tryz.ntmps75
    try dsimp only [List.append]
    go_wp2
    all_goals
      go_ret
      exact ⟨ret_int (by rw [HF.out]; omega), hb4⟩
  rcases hfq with hf | hfq
  · rw [hf] at k0 k0'
    have HF : Hid (v = max ((f / 1440 - s) / (7 * r.interval) - 1) 0) := by
      unfold Hid; rw [HV.out, if_neg (by omega)]; unfold plong; rw [hf]; simp
    have hq0 : 0 ≤ (f / 1440 - s) / (7 * r.interval) := Int.ediv_nonneg hpos (by omega)
    have hq1 : (f / 1440 - s) / (7 * r.interval) ≤ 109938 := Int.le_trans (Int.ediv_le_self _ hpos) hup
    clear hf
    go_enter Tryz.func75, Tryz.ntmps75
    try dsimp only [List.append]
    go_wp2
    all_goals
      go_ret
      exact ⟨ret_int (by rw [HF.out]; omega), hb4⟩
  rcases hfq with hf | hfq
  · rw [hf] at k0 k0'
    have HF : Hid (v = max ((f / 1440 - s) / (31 * r.interval) - 1) 0) := by
      unfold Hid; rw [HV.out, if_neg (by omega)]; unfold plong; rw [hf]; simp
    have hq0 : 0 ≤ (f / 1440 - s) / (31 * r.interval) := Int.ediv_nonneg hpos (by omega)
    have hq1 : (f / 1440 - s) / (31 * r.interval) ≤ 109938 := Int.le_trans (Int.ediv_le_self _ hpos) hup
    clear hf
    go_enter Tryz.func75, Tryz.ntmps75
    try dsimp only [List.append]
    go_wp2
    all_goals
      go_ret
      exact ⟨ret_int (by rw [HF.out]; omega), hb4⟩
  have hf := hfq
  rw [hf] at k0 k0'
  have HF : Hid (v = max ((f / 1440 - s) / (366 * r.interval) - 1) 0) := by
    unfold Hid; rw [HV.out, if_neg (by omega)]; unfold plong; rw [hf]; simp
  have hq0 : 0 ≤ (f / 1440 - s) / (366 * r.interval) := Int.ediv_nonneg hpos (by omega)
  have hq1 : (f / 1440 - s) / (366 * r.interval) ≤ 109938 := Int.le_trans (Int.ediv_le_self _ hpos) hup
  clear hf
  go_enter Tryz.func75, Tryz.ntmps75
  try dsimp only [List.append]
  go_wp2
  all_goals
    go_ret
    exact ⟨ret_int (by rw [HF.out]; omega), hb4⟩
end Go.Proofs.YthcngkcfopaigaaGreat
