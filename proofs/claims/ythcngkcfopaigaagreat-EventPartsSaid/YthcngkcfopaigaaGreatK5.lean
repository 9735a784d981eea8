/- The walk of the program's function that tells whether a rule may be.
The walks of the two functions that tell a day's date: the program's and the document's. -/
import Derived.Test.YthcngkcfopaigaaGreatK4
namespace Go.Proofs.YthcngkcfopaigaaGreat
open Go.RowKit
theorem rends_iff (r : RuleV) : rends r = true ↔ 0 ≤ r.count ∧ r.count ≤ 5000 ∧ (r.till = -1 ∨ (0 ≤ r.till ∧ r.till < 158310720 ∧ r.count = 0)) := by
  simp only [rends, Bool.and_eq_true, Bool.or_eq_true, decide_eq_true_eq, and_assoc]
theorem rmay_iff (r : RuleV) : rmay r = true ↔ 1 ≤ r.freq ∧ r.freq ≤ 4 ∧ 1 ≤ r.interval ∧ r.interval ≤ 999 ∧ rends r = true ∧ rrow r.byMonth 12 false = true ∧ rrow r.byMonthDay 31 true = true ∧ (r.freq ≠ 2 ∨ r.byMonthDay.length = 0) ∧
    rdays r = true ∧ rrow r.bySetPos 366 true = true ∧ (0 < r.byMonth.length + r.byMonthDay.length + r.byDay.length ∨ r.bySetPos.length = 0) ∧ 0 ≤ r.start ∧ r.start ≤ 6 := by
  simp only [rmay, Bool.and_eq_true, Bool.or_eq_true, decide_eq_true_eq, and_assoc]
theorem bnot_true {b : Bool} (h : ¬ b = true) : b = false := by cases b <;> simp_all
set_option maxHeartbeats 2000000 in
theorem ends_c (r : RuleV) (a1 : Option Addr) (c1 : Nat) (a2 : Option Addr) (c2 : Nat) (a3 : Option Addr) (c3 : Nat) (a4 : Option Addr) (c4 : Nat) (w : World) :
    Calls Tryz.prog 44 #[.agg (ruleC r a1 c1 a2 c2 a3 c3 a4 c4)] w fun e w' => e = .returned (.bool (rends r)) ∧ Below w.heap.size w w' := by
  have HI := Hid.mk (rends_iff r)
  generalize rends r = v at *
  by_cases g1 : r.count < 0
  · have d1 := decide_eq_true g1
    have HF : Hid (v = false) := bnot_true fun h => by have := HI.out.1 h; omega
    clear g1
    go_enter Tryz.func44, Tryz.ntmps44
    go_wp2
    go_ret
    exact ⟨ret_bool HF.out.symm, blw⟩
  have d1 := decide_eq_false g1
  by_cases g2 : 5000 < r.count
  · have d2 := decide_eq_true g2
    have HF : Hid (v = false) := bnot_true fun h => by have := HI.out.1 h; omega
    go_enter Tryz.func44, Tryz.ntmps44
    go_wp2
    go_ret
    exact ⟨ret_bool HF.out.symm, blw⟩
  have d2 := decide_eq_false g2
  by_cases g3 : r.till = -1
  · have d3 : (r.till == -1) = true := by simpa using g3
    have HF : Hid (v = true) := HI.out.2 ⟨by omega, by omega, .inl g3⟩
    clear g3
    go_enter Tryz.func44, Tryz.ntmps44
    go_wp2
    go_ret
    exact ⟨ret_bool HF.out.symm, blw⟩
  have d3 : (r.till == -1) = false := by simpa using g3
  by_cases g4 : 0 ≤ r.till
  · have d4 := decide_eq_true g4
    by_cases g5 : r.till < 158310720
    · have d5 := decide_eq_true g5
      by_cases g6 : r.count = 0
      · have d6 : (r.count == 0) = true := by simpa using g6
        have HF : Hid (v = true) := HI.out.2 ⟨by omega, by omega, .inr ⟨g4, g5, g6⟩⟩
        clear g6
        go_enter Tryz.func44, Tryz.ntmps44
        go_wp2
        go_ret
        exact ⟨ret_bool HF.out.symm, blw⟩
      · have d6 : (r.count == 0) = false := by simpa using g6
        have HF : Hid (v = false) := bnot_true fun h => by have := HI.out.1 h; omega
        clear g6
        go_enter Tryz.func44, Tryz.ntmps44
        go_wp2
        go_ret
        exact ⟨ret_bool HF.out.symm, blw⟩
    · have d5 := decide_eq_false g5
      have HF : Hid (v = false) := bnot_true fun h => by have := HI.out.1 h; omega
      go_enter Tryz.func44, Tryz.ntmps44
      go_wp2
      go_ret
      exact ⟨ret_bool HF.out.symm, blw⟩
  · have d4 := decide_eq_false g4
    have HF : Hid (v = false) := bnot_true fun h => by have := HI.out.1 h; omega
    clear g3
    go_enter Tryz.func44, Tryz.ntmps44
    go_wp2
    go_ret
    exact ⟨ret_bool HF.out.symm, blw⟩
set_option maxRecDepth 100000 in
set_option maxHeartbeats 10000000 in
theorem rmay_c (r : RuleV) (a1 : Option Addr) (c1 : Nat) (a2 : Option Addr) (c2 : Nat) (a3 : Option Addr) (c3 : Nat) (a4 : Option Addr) (c4 : Nat) (w : World) (hr : RuleAt w r a1 a2 a3 a4) :
    Calls Tryz.prog 22 #[.agg (ruleC r a1 c1 a2 c2 a3 c3 a4 c4)] w fun e w' => e = .returned (.bool (rmay r)) ∧ Below w.heap.size w w' := by
  have HI := Hid.mk (rmay_iff r)
  have HE := Hid.mk (fun w' (_ : Below w.heap.size w w') => ends_c r a1 c1 a2 c2 a3 c3 a4 c4 w')
  have H1 := Hid.mk (fun w' hb => rrow_c a1 c1 r.byMonth 12 false w' (hr.r1.below hb) (by have := hr.b1; omega) (by omega) (by omega))
  have H2 := Hid.mk (fun w' hb => rrow_c a2 c2 r.byMonthDay 31 true w' (hr.r2.below hb) (by have := hr.b2; omega) (by omega) (by omega))
  have H4 := Hid.mk (fun w' hb => rrow_c a4 c4 r.bySetPos 366 true w' (hr.r4.below hb) (by have := hr.b4; omega) (by omega) (by omega))
  have HD := Hid.mk (fun w' hb => rdays_c r a1 c1 a2 c2 a3 c3 a4 c4 w' (hr.below hb))
  have n1 := hr.b1
  have n2 := hr.b2
  have n3 := hr.b3
  have n4 := hr.b4
  clear hr
  generalize rmay r = v at *
  by_cases g1 : 1 ≤ r.freq
  rotate_left
  · have d1 := decide_eq_false g1
    have HF : Hid (v = false) := bnot_true fun h => by
      obtain ⟨f1, f2, f3, f4, f5, f6, f7, f8, f9, f10, f11, f12, f13⟩ := HI.out.1 h
      exact g1 f1
    go_enter Tryz.func22, Tryz.ntmps22
    dsimp only [List.append]
    go_wp2_with (fail)
    go_ret
    exact ⟨ret_bool HF.out.symm, blw⟩
  have d1 := decide_eq_true g1
  by_cases g2 : r.freq ≤ 4
  rotate_left
  · have d2 := decide_eq_false g2
    have HF : Hid (v = false) := bnot_true fun h => by
      obtain ⟨f1, f2, f3, f4, f5, f6, f7, f8, f9, f10, f11, f12, f13⟩ := HI.out.1 h
      exact g2 f2
    go_enter Tryz.func22, Tryz.ntmps22
    dsimp only [List.append]
    go_wp2_with (fail)
    go_ret
    exact ⟨ret_bool HF.out.symm, blw⟩
  have d2 := decide_eq_true g2
  by_cases g3 : 1 ≤ r.interval
  rotate_left
  · have d3 := decide_eq_false g3
    have HF : Hid (v = false) := bnot_true fun h => by
      obtain ⟨f1, f2, f3, f4, f5, f6, f7, f8, f9, f10, f11, f12, f13⟩ := HI.out.1 h
      exact g3 f3
    go_enter Tryz.func22, Tryz.ntmps22
    dsimp only [List.append]
    go_wp2_with (fail)
    go_ret
    exact ⟨ret_bool HF.out.symm, blw⟩
  have d3 := decide_eq_true g3
  by_cases g4 : r.interval ≤ 999
  rotate_left
  · have d4 := decide_eq_false g4
    have HF : Hid (v = false) := bnot_true fun h => by
      obtain ⟨f1, f2, f3, f4, f5, f6, f7, f8, f9, f10, f11, f12, f13⟩ := HI.out.1 h
      exact g4 f4
    go_enter Tryz.func22, Tryz.ntmps22
    dsimp only [List.append]
    go_wp2_with (fail)
    go_ret
    exact ⟨ret_bool HF.out.symm, blw⟩
  have d4 := decide_eq_true g4
  cases h5 : rends r
  · rw [h5] at HE
    have HB5 := Hid.mk h5
    clear h5
    have HF : Hid (v = false) := bnot_true fun h => by
      obtain ⟨f1, f2, f3, f4, f5, f6, f7, f8, f9, f10, f11, f12, f13⟩ := HI.out.1 h
      exact by rw [HB5.out] at f5; cases f5
    go_enter Tryz.func22, Tryz.ntmps22
    dsimp only [List.append]
    go_wp2_with (first | (go_at_call 44; (with_reducible refine (HE.out _ blw).mono ?_); rintro e w' ⟨rfl, hb'⟩; have hW := bl_step (a := w) blw hb'; have hB := bl_step (a := w.alloc (.cells (ruleC r a1 c1 a2 c2 a3 c3 a4 c4) 28)) blw hb'; clear hb'; (try clear b0 b1 b2 b3 b4 b5 b6 b7 b8); have b0 := box_get hB 0 rfl; have b1 := box_get hB 1 rfl; have b2 := box_get hB 2 rfl; have b3 := box_get hB 3 rfl; have b4 := box_get hB 4 rfl; have b5 := box_get hB 5 rfl; have b6 := box_get hB 6 rfl; have b7 := box_get hB 7 rfl; have b8 := box_get hB 8 rfl))
    go_ret
    exact ⟨ret_bool HF.out.symm, blw⟩
  rw [h5] at HE
  have HB5 := Hid.mk h5
  clear h5
  cases h6 : rrow r.byMonth 12 false
  · rw [h6] at H1
    have HB6 := Hid.mk h6
    clear h6
    have HF : Hid (v = false) := bnot_true fun h => by
      obtain ⟨f1, f2, f3, f4, f5, f6, f7, f8, f9, f10, f11, f12, f13⟩ := HI.out.1 h
      exact by rw [HB6.out] at f6; cases f6
    go_enter Tryz.func22, Tryz.ntmps22
    dsimp only [List.append]
    go_wp2_with (first | (go_at_call 44; (with_reducible refine (HE.out _ blw).mono ?_); rintro e w' ⟨rfl, hb'⟩; have hW := bl_step (a := w) blw hb'; have hB := bl_step (a := w.alloc (.cells (ruleC r a1 c1 a2 c2 a3 c3 a4 c4) 28)) blw hb'; clear hb'; (try clear b0 b1 b2 b3 b4 b5 b6 b7 b8); have b0 := box_get hB 0 rfl; have b1 := box_get hB 1 rfl; have b2 := box_get hB 2 rfl; have b3 := box_get hB 3 rfl; have b4 := box_get hB 4 rfl; have b5 := box_get hB 5 rfl; have b6 := box_get hB 6 rfl; have b7 := box_get hB 7 rfl; have b8 := box_get hB 8 rfl) | (go_at_call 45; (with_reducible refine (H1.out _ blw).mono ?_); rintro e w' ⟨rfl, hb'⟩; have hW := bl_step (a := w) blw hb'; have hB := bl_step (a := w.alloc (.cells (ruleC r a1 c1 a2 c2 a3 c3 a4 c4) 28)) blw hb'; clear hb'; (try clear b0 b1 b2 b3 b4 b5 b6 b7 b8); have b0 := box_get hB 0 rfl; have b1 := box_get hB 1 rfl; have b2 := box_get hB 2 rfl; have b3 := box_get hB 3 rfl; have b4 := box_get hB 4 rfl; have b5 := box_get hB 5 rfl; have b6 := box_get hB 6 rfl; have b7 := box_get hB 7 rfl; have b8 := box_get hB 8 rfl))
    go_ret
    exact ⟨ret_bool HF.out.symm, blw⟩
  rw [h6] at H1
  have HB6 := Hid.mk h6
  clear h6
  cases h7 : rrow r.byMonthDay 31 true
  · rw [h7] at H2
    have HB7 := Hid.mk h7
    clear h7
    have HF : Hid (v = false) := bnot_true fun h => by
      obtain ⟨f1, f2, f3, f4, f5, f6, f7, f8, f9, f10, f11, f12, f13⟩ := HI.out.1 h
      exact by rw [HB7.out] at f7; cases f7
    go_enter Tryz.func22, Tryz.ntmps22
    dsimp only [List.append]
    go_wp2_with (first | (go_at_call 44; (with_reducible refine (HE.out _ blw).mono ?_); rintro e w' ⟨rfl, hb'⟩; have hW := bl_step (a := w) blw hb'; have hB := bl_step (a := w.alloc (.cells (ruleC r a1 c1 a2 c2 a3 c3 a4 c4) 28)) blw hb'; clear hb'; (try clear b0 b1 b2 b3 b4 b5 b6 b7 b8); have b0 := box_get hB 0 rfl; have b1 := box_get hB 1 rfl; have b2 := box_get hB 2 rfl; have b3 := box_get hB 3 rfl; have b4 := box_get hB 4 rfl; have b5 := box_get hB 5 rfl; have b6 := box_get hB 6 rfl; have b7 := box_get hB 7 rfl; have b8 := box_get hB 8 rfl) | (go_at_call 45; (with_reducible refine (H1.out _ blw).mono ?_); rintro e w' ⟨rfl, hb'⟩; have hW := bl_step (a := w) blw hb'; have hB := bl_step (a := w.alloc (.cells (ruleC r a1 c1 a2 c2 a3 c3 a4 c4) 28)) blw hb'; clear hb'; (try clear b0 b1 b2 b3 b4 b5 b6 b7 b8); have b0 := box_get hB 0 rfl; have b1 := box_get hB 1 rfl; have b2 := box_get hB 2 rfl; have b3 := box_get hB 3 rfl; have b4 := box_get hB 4 rfl; have b5 := box_get hB 5 rfl; have b6 := box_get hB 6 rfl; have b7 := box_get hB 7 rfl; have b8 := box_get hB 8 rfl) | (go_at_call 45; (with_reducible refine (H2.out _ blw).mono ?_); rintro e w' ⟨rfl, hb'⟩; have hW := bl_step (a := w) blw hb'; have hB := bl_step (a := w.alloc (.cells (ruleC r a1 c1 a2 c2 a3 c3 a4 c4) 28)) blw hb'; clear hb'; (try clear b0 b1 b2 b3 b4 b5 b6 b7 b8); have b0 := box_get hB 0 rfl; have b1 := box_get hB 1 rfl; have b2 := box_get hB 2 rfl; have b3 := box_get hB 3 rfl; have b4 := box_get hB 4 rfl; have b5 := box_get hB 5 rfl; have b6 := box_get hB 6 rfl; have b7 := box_get hB 7 rfl; have b8 := box_get hB 8 rfl))
    go_ret
    exact ⟨ret_bool HF.out.symm, blw⟩
  rw [h7] at H2
  have HB7 := Hid.mk h7
  clear h7
  have h8 : (r.freq ≠ 2 ∨ r.byMonthDay.length = 0) ∨ (r.freq = 2 ∧ r.byMonthDay.length ≠ 0) := by omega
  rcases h8 with h8 | ⟨h8, h8'⟩
  rotate_left
  · have d8 : (r.freq != 2) = false := by simpa using h8
    have d8' : (((r.byMonthDay.length : Nat) : Int) == 0) = false := by simp; intro h; rw [h] at h8'; simp at h8'
    have HB8 := Hid.mk (fun f8 : r.freq ≠ 2 ∨ r.byMonthDay.length = 0 => show False from by omega)
    clear h8 h8'
    have HF : Hid (v = false) := bnot_true fun h => by
      obtain ⟨f1, f2, f3, f4, f5, f6, f7, f8, f9, f10, f11, f12, f13⟩ := HI.out.1 h
      exact HB8.out f8
    go_enter Tryz.func22, Tryz.ntmps22
    dsimp only [List.append]
    go_wp2_with (first | (go_at_call 44; (with_reducible refine (HE.out _ blw).mono ?_); rintro e w' ⟨rfl, hb'⟩; have hW := bl_step (a := w) blw hb'; have hB := bl_step (a := w.alloc (.cells (ruleC r a1 c1 a2 c2 a3 c3 a4 c4) 28)) blw hb'; clear hb'; (try clear b0 b1 b2 b3 b4 b5 b6 b7 b8); have b0 := box_get hB 0 rfl; have b1 := box_get hB 1 rfl; have b2 := box_get hB 2 rfl; have b3 := box_get hB 3 rfl; have b4 := box_get hB 4 rfl; have b5 := box_get hB 5 rfl; have b6 := box_get hB 6 rfl; have b7 := box_get hB 7 rfl; have b8 := box_get hB 8 rfl) | (go_at_call 45; (with_reducible refine (H1.out _ blw).mono ?_); rintro e w' ⟨rfl, hb'⟩; have hW := bl_step (a := w) blw hb'; have hB := bl_step (a := w.alloc (.cells (ruleC r a1 c1 a2 c2 a3 c3 a4 c4) 28)) blw hb'; clear hb'; (try clear b0 b1 b2 b3 b4 b5 b6 b7 b8); have b0 := box_get hB 0 rfl; have b1 := box_get hB 1 rfl; have b2 := box_get hB 2 rfl; have b3 := box_get hB 3 rfl; have b4 := box_get hB 4 rfl; have b5 := box_get hB 5 rfl; have b6 := box_get hB 6 rfl; have b7 := box_get hB 7 rfl; have b8 := box_get hB 8 rfl) | (go_at_call 45; (with_reducible refine (H2.out _ blw).mono ?_); rintro e w' ⟨rfl, hb'⟩; have hW := bl_step (a := w) blw hb'; have hB := bl_step (a := w.alloc (.cells (ruleC r a1 c1 a2 c2 a3 c3 a4 c4) 28)) blw hb'; clear hb'; (try clear b0 b1 b2 b3 b4 b5 b6 b7 b8); have b0 := box_get hB 0 rfl; have b1 := box_get hB 1 rfl; have b2 := box_get hB 2 rfl; have b3 := box_get hB 3 rfl; have b4 := box_get hB 4 rfl; have b5 := box_get hB 5 rfl; have b6 := box_get hB 6 rfl; have b7 := box_get hB 7 rfl; have b8 := box_get hB 8 rfl))
    go_ret
    exact ⟨ret_bool HF.out.symm, blw⟩
  have h8c : (r.freq != 2) = true ∨ ((r.freq != 2) = false ∧ (((r.byMonthDay.length : Nat) : Int) == 0) = true) := by
    rcases h8 with h | h
    · left; simpa using h
    · cases hq : (r.freq != 2) with
      | true => left; rfl
      | false => right; exact ⟨rfl, by rw [h]; rfl⟩
  have HB8 := Hid.mk h8
  clear h8
  rcases h8c with d8 | ⟨d8, d8'⟩
  all_goals
    cases h9 : rdays r
    · rw [h9] at HD
      have HB9 := Hid.mk h9
      clear h9
      have HF : Hid (v = false) := bnot_true fun h => by
        obtain ⟨f1, f2, f3, f4, f5, f6, f7, f8, f9, f10, f11, f12, f13⟩ := HI.out.1 h
        exact by rw [HB9.out] at f9; cases f9
      go_enter Tryz.func22, Tryz.ntmps22
      dsimp only [List.append]
      go_wp2_with (first | (go_at_call 44; (with_reducible refine (HE.out _ blw).mono ?_); rintro e w' ⟨rfl, hb'⟩; have hW := bl_step (a := w) blw hb'; have hB := bl_step (a := w.alloc (.cells (ruleC r a1 c1 a2 c2 a3 c3 a4 c4) 28)) blw hb'; clear hb'; (try clear b0 b1 b2 b3 b4 b5 b6 b7 b8); have b0 := box_get hB 0 rfl; have b1 := box_get hB 1 rfl; have b2 := box_get hB 2 rfl; have b3 := box_get hB 3 rfl; have b4 := box_get hB 4 rfl; have b5 := box_get hB 5 rfl; have b6 := box_get hB 6 rfl; have b7 := box_get hB 7 rfl; have b8 := box_get hB 8 rfl) | (go_at_call 45; (with_reducible refine (H1.out _ blw).mono ?_); rintro e w' ⟨rfl, hb'⟩; have hW := bl_step (a := w) blw hb'; have hB := bl_step (a := w.alloc (.cells (ruleC r a1 c1 a2 c2 a3 c3 a4 c4) 28)) blw hb'; clear hb'; (try clear b0 b1 b2 b3 b4 b5 b6 b7 b8); have b0 := box_get hB 0 rfl; have b1 := box_get hB 1 rfl; have b2 := box_get hB 2 rfl; have b3 := box_get hB 3 rfl; have b4 := box_get hB 4 rfl; have b5 := box_get hB 5 rfl; have b6 := box_get hB 6 rfl; have b7 := box_get hB 7 rfl; have b8 := box_get hB 8 rfl) | (go_at_call 45; (with_reducible refine (H2.out _ blw).mono ?_); rintro e w' ⟨rfl, hb'⟩; have hW := bl_step (a := w) blw hb'; have hB := bl_step (a := w.alloc (.cells (ruleC r a1 c1 a2 c2 a3 c3 a4 c4) 28)) blw hb'; clear hb'; (try clear b0 b1 b2 b3 b4 b5 b6 b7 b8); have b0 := box_get hB 0 rfl; have b1 := box_get hB 1 rfl; have b2 := box_get hB 2 rfl; have b3 := box_get hB 3 rfl; have b4 := box_get hB 4 rfl; have b5 := box_get hB 5 rfl; have b6 := box_get hB 6 rfl; have b7 := box_get hB 7 rfl; have b8 := box_get hB 8 rfl) | (go_at_call 46; (with_reducible refine (HD.out _ blw).mono ?_); rintro e w' ⟨rfl, hb'⟩; have hW := bl_step (a := w) blw hb'; have hB := bl_step (a := w.alloc (.cells (ruleC r a1 c1 a2 c2 a3 c3 a4 c4) 28)) blw hb'; clear hb'; (try clear b0 b1 b2 b3 b4 b5 b6 b7 b8); have b0 := box_get hB 0 rfl; have b1 := box_get hB 1 rfl; have b2 := box_get hB 2 rfl; have b3 := box_get hB 3 rfl; have b4 := box_get hB 4 rfl; have b5 := box_get hB 5 rfl; have b6 := box_get hB 6 rfl; have b7 := box_get hB 7 rfl; have b8 := box_get hB 8 rfl))
      go_ret
      exact ⟨ret_bool HF.out.symm, blw⟩
    rw [h9] at HD
    have HB9 := Hid.mk h9
    clear h9
    cases h10 : rrow r.bySetPos 366 true
    · rw [h10] at H4
      have HB10 := Hid.mk h10
      clear h10
      have HF : Hid (v = false) := bnot_true fun h => by
        obtain ⟨f1, f2, f3, f4, f5, f6, f7, f8, f9, f10, f11, f12, f13⟩ := HI.out.1 h
        exact by rw [HB10.out] at f10; cases f10
      go_enter Tryz.func22, Tryz.ntmps22
      dsimp only [List.append]
      go_wp2_with (first | (go_at_call 44; (with_reducible refine (HE.out _ blw).mono ?_); rintro e w' ⟨rfl, hb'⟩; have hW := bl_step (a := w) blw hb'; have hB := bl_step (a := w.alloc (.cells (ruleC r a1 c1 a2 c2 a3 c3 a4 c4) 28)) blw hb'; clear hb'; (try clear b0 b1 b2 b3 b4 b5 b6 b7 b8); have b0 := box_get hB 0 rfl; have b1 := box_get hB 1 rfl; have b2 := box_get hB 2 rfl; have b3 := box_get hB 3 rfl; have b4 := box_get hB 4 rfl; have b5 := box_get hB 5 rfl; have b6 := box_get hB 6 rfl; have b7 := box_get hB 7 rfl; have b8 := box_get hB 8 rfl) | (go_at_call 45; (with_reducible refine (H1.out _ blw).mono ?_); rintro e w' ⟨rfl, hb'⟩; have hW := bl_step (a := w) blw hb'; have hB := bl_step (a := w.alloc (.cells (ruleC r a1 c1 a2 c2 a3 c3 a4 c4) 28)) blw hb'; clear hb'; (try clear b0 b1 b2 b3 b4 b5 b6 b7 b8); have b0 := box_get hB 0 rfl; have b1 := box_get hB 1 rfl; have b2 := box_get hB 2 rfl; have b3 := box_get hB 3 rfl; have b4 := box_get hB 4 rfl; have b5 := box_get hB 5 rfl; have b6 := box_get hB 6 rfl; have b7 := box_get hB 7 rfl; have b8 := box_get hB 8 rfl) | (go_at_call 45; (with_reducible refine (H2.out _ blw).mono ?_); rintro e w' ⟨rfl, hb'⟩; have hW := bl_step (a := w) blw hb'; have hB := bl_step (a := w.alloc (.cells (ruleC r a1 c1 a2 c2 a3 c3 a4 c4) 28)) blw hb'; clear hb'; (try clear b0 b1 b2 b3 b4 b5 b6 b7 b8); have b0 := box_get hB 0 rfl; have b1 := box_get hB 1 rfl; have b2 := box_get hB 2 rfl; have b3 := box_get hB 3 rfl; have b4 := box_get hB 4 rfl; have b5 := box_get hB 5 rfl; have b6 := box_get hB 6 rfl; have b7 := box_get hB 7 rfl; have b8 := box_get hB 8 rfl) | (go_at_call 46; (with_reducible refine (HD.out _ blw).mono ?_); rintro e w' ⟨rfl, hb'⟩; have hW := bl_step (a := w) blw hb'; have hB := bl_step (a := w.alloc (.cells (ruleC r a1 c1 a2 c2 a3 c3 a4 c4) 28)) blw hb'; clear hb'; (try clear b0 b1 b2 b3 b4 b5 b6 b7 b8); have b0 := box_get hB 0 rfl; have b1 := box_get hB 1 rfl; have b2 := box_get hB 2 rfl; have b3 := box_get hB 3 rfl; have b4 := box_get hB 4 rfl; have b5 := box_get hB 5 rfl; have b6 := box_get hB 6 rfl; have b7 := box_get hB 7 rfl; have b8 := box_get hB 8 rfl) | (go_at_call 45; (with_reducible refine (H4.out _ blw).mono ?_); rintro e w' ⟨rfl, hb'⟩; have hW := bl_step (a := w) blw hb'; have hB := bl_step (a := w.alloc (.cells (ruleC r a1 c1 a2 c2 a3 c3 a4 c4) 28)) blw hb'; clear hb'; (try clear b0 b1 b2 b3 b4 b5 b6 b7 b8); have b0 := box_get hB 0 rfl; have b1 := box_get hB 1 rfl; have b2 := box_get hB 2 rfl; have b3 := box_get hB 3 rfl; have b4 := box_get hB 4 rfl; have b5 := box_get hB 5 rfl; have b6 := box_get hB 6 rfl; have b7 := box_get hB 7 rfl; have b8 := box_get hB 8 rfl))
      go_ret
      exact ⟨ret_bool HF.out.symm, blw⟩
    rw [h10] at H4
    have HB10 := Hid.mk h10
    clear h10
    have h11 : (0 < r.byMonth.length + r.byMonthDay.length + r.byDay.length) ∨ (¬ 0 < r.byMonth.length + r.byMonthDay.length + r.byDay.length ∧ (((r.bySetPos.length : Nat) : Int) == 0) = true) ∨ (¬ 0 < r.byMonth.length + r.byMonthDay.length + r.byDay.length ∧ (((r.bySetPos.length : Nat) : Int) == 0) = false ∧ r.bySetPos.length ≠ 0) := by
      by_cases h : 0 < r.byMonth.length + r.byMonthDay.length + r.byDay.length
      · exact .inl h
      · by_cases h' : r.bySetPos.length = 0
        · exact .inr (.inl ⟨h, by rw [h']; rfl⟩)
        · exact .inr (.inr ⟨h, by simp; intro e; rw [e] at h'; simp at h', h'⟩)
    rcases h11 with h11 | ⟨h11, d11'⟩ | ⟨h11, d11', h11'⟩
    rotate_left
    rotate_left
    · have HB11 := Hid.mk (fun f11 : 0 < r.byMonth.length + r.byMonthDay.length + r.byDay.length ∨ r.bySetPos.length = 0 => show False from by omega)
      clear h11'
      have HF : Hid (v = false) := bnot_true fun h => by
        obtain ⟨f1, f2, f3, f4, f5, f6, f7, f8, f9, f10, f11, f12, f13⟩ := HI.out.1 h
        exact HB11.out f11
      go_enter Tryz.func22, Tryz.ntmps22
      dsimp only [List.append]
      go_wp2_with (first | (go_at_call 44; (with_reducible refine (HE.out _ blw).mono ?_); rintro e w' ⟨rfl, hb'⟩; have hW := bl_step (a := w) blw hb'; have hB := bl_step (a := w.alloc (.cells (ruleC r a1 c1 a2 c2 a3 c3 a4 c4) 28)) blw hb'; clear hb'; (try clear b0 b1 b2 b3 b4 b5 b6 b7 b8); have b0 := box_get hB 0 rfl; have b1 := box_get hB 1 rfl; have b2 := box_get hB 2 rfl; have b3 := box_get hB 3 rfl; have b4 := box_get hB 4 rfl; have b5 := box_get hB 5 rfl; have b6 := box_get hB 6 rfl; have b7 := box_get hB 7 rfl; have b8 := box_get hB 8 rfl) | (go_at_call 45; (with_reducible refine (H1.out _ blw).mono ?_); rintro e w' ⟨rfl, hb'⟩; have hW := bl_step (a := w) blw hb'; have hB := bl_step (a := w.alloc (.cells (ruleC r a1 c1 a2 c2 a3 c3 a4 c4) 28)) blw hb'; clear hb'; (try clear b0 b1 b2 b3 b4 b5 b6 b7 b8); have b0 := box_get hB 0 rfl; have b1 := box_get hB 1 rfl; have b2 := box_get hB 2 rfl; have b3 := box_get hB 3 rfl; have b4 := box_get hB 4 rfl; have b5 := box_get hB 5 rfl; have b6 := box_get hB 6 rfl; have b7 := box_get hB 7 rfl; have b8 := box_get hB 8 rfl) | (go_at_call 45; (with_reducible refine (H2.out _ blw).mono ?_); rintro e w' ⟨rfl, hb'⟩; have hW := bl_step (a := w) blw hb'; have hB := bl_step (a := w.alloc (.cells (ruleC r a1 c1 a2 c2 a3 c3 a4 c4) 28)) blw hb'; clear hb'; (try clear b0 b1 b2 b3 b4 b5 b6 b7 b8); have b0 := box_get hB 0 rfl; have b1 := box_get hB 1 rfl; have b2 := box_get hB 2 rfl; have b3 := box_get hB 3 rfl; have b4 := box_get hB 4 rfl; have b5 := box_get hB 5 rfl; have b6 := box_get hB 6 rfl; have b7 := box_get hB 7 rfl; have b8 := box_get hB 8 rfl) | (go_at_call 46; (with_reducible refine (HD.out _ blw).mono ?_); rintro e w' ⟨rfl, hb'⟩; have hW := bl_step (a := w) blw hb'; have hB := bl_step (a := w.alloc (.cells (ruleC r a1 c1 a2 c2 a3 c3 a4 c4) 28)) blw hb'; clear hb'; (try clear b0 b1 b2 b3 b4 b5 b6 b7 b8); have b0 := box_get hB 0 rfl; have b1 := box_get hB 1 rfl; have b2 := box_get hB 2 rfl; have b3 := box_get hB 3 rfl; have b4 := box_get hB 4 rfl; have b5 := box_get hB 5 rfl; have b6 := box_get hB 6 rfl; have b7 := box_get hB 7 rfl; have b8 := box_get hB 8 rfl) | (go_at_call 45; (with_reducible refine (H4.out _ blw).mono ?_); rintro e w' ⟨rfl, hb'⟩; have hW := bl_step (a := w) blw hb'; have hB := bl_step (a := w.alloc (.cells (ruleC r a1 c1 a2 c2 a3 c3 a4 c4) 28)) blw hb'; clear hb'; (try clear b0 b1 b2 b3 b4 b5 b6 b7 b8); have b0 := box_get hB 0 rfl; have b1 := box_get hB 1 rfl; have b2 := box_get hB 2 rfl; have b3 := box_get hB 3 rfl; have b4 := box_get hB 4 rfl; have b5 := box_get hB 5 rfl; have b6 := box_get hB 6 rfl; have b7 := box_get hB 7 rfl; have b8 := box_get hB 8 rfl))
      go_ret
      exact ⟨ret_bool HF.out.symm, blw⟩
    all_goals
      have HB11 : Hid (0 < r.byMonth.length + r.byMonthDay.length + r.byDay.length ∨ r.bySetPos.length = 0) := by first | exact .inl h11 | exact .inr (by simp at d11'; simp [d11'])
      by_cases g12 : 0 ≤ r.start
      rotate_left
      · have d12 := decide_eq_false g12
        have HF : Hid (v = false) := bnot_true fun h => by
          obtain ⟨f1, f2, f3, f4, f5, f6, f7, f8, f9, f10, f11, f12, f13⟩ := HI.out.1 h
          exact g12 f12
        go_enter Tryz.func22, Tryz.ntmps22
        dsimp only [List.append]
        go_wp2_with (first | (go_at_call 44; (with_reducible refine (HE.out _ blw).mono ?_); rintro e w' ⟨rfl, hb'⟩; have hW := bl_step (a := w) blw hb'; have hB := bl_step (a := w.alloc (.cells (ruleC r a1 c1 a2 c2 a3 c3 a4 c4) 28)) blw hb'; clear hb'; (try clear b0 b1 b2 b3 b4 b5 b6 b7 b8); have b0 := box_get hB 0 rfl; have b1 := box_get hB 1 rfl; have b2 := box_get hB 2 rfl; have b3 := box_get hB 3 rfl; have b4 := box_get hB 4 rfl; have b5 := box_get hB 5 rfl; have b6 := box_get hB 6 rfl; have b7 := box_get hB 7 rfl; have b8 := box_get hB 8 rfl) | (go_at_call 45; (with_reducible refine (H1.out _ blw).mono ?_); rintro e w' ⟨rfl, hb'⟩; have hW := bl_step (a := w) blw hb'; have hB := bl_step (a := w.alloc (.cells (ruleC r a1 c1 a2 c2 a3 c3 a4 c4) 28)) blw hb'; clear hb'; (try clear b0 b1 b2 b3 b4 b5 b6 b7 b8); have b0 := box_get hB 0 rfl; have b1 := box_get hB 1 rfl; have b2 := box_get hB 2 rfl; have b3 := box_get hB 3 rfl; have b4 := box_get hB 4 rfl; have b5 := box_get hB 5 rfl; have b6 := box_get hB 6 rfl; have b7 := box_get hB 7 rfl; have b8 := box_get hB 8 rfl) | (go_at_call 45; (with_reducible refine (H2.out _ blw).mono ?_); rintro e w' ⟨rfl, hb'⟩; have hW := bl_step (a := w) blw hb'; have hB := bl_step (a := w.alloc (.cells (ruleC r a1 c1 a2 c2 a3 c3 a4 c4) 28)) blw hb'; clear hb'; (try clear b0 b1 b2 b3 b4 b5 b6 b7 b8); have b0 := box_get hB 0 rfl; have b1 := box_get hB 1 rfl; have b2 := box_get hB 2 rfl; have b3 := box_get hB 3 rfl; have b4 := box_get hB 4 rfl; have b5 := box_get hB 5 rfl; have b6 := box_get hB 6 rfl; have b7 := box_get hB 7 rfl; have b8 := box_get hB 8 rfl) | (go_at_call 46; (with_reducible refine (HD.out _ blw).mono ?_); rintro e w' ⟨rfl, hb'⟩; have hW := bl_step (a := w) blw hb'; have hB := bl_step (a := w.alloc (.cells (ruleC r a1 c1 a2 c2 a3 c3 a4 c4) 28)) blw hb'; clear hb'; (try clear b0 b1 b2 b3 b4 b5 b6 b7 b8); have b0 := box_get hB 0 rfl; have b1 := box_get hB 1 rfl; have b2 := box_get hB 2 rfl; have b3 := box_get hB 3 rfl; have b4 := box_get hB 4 rfl; have b5 := box_get hB 5 rfl; have b6 := box_get hB 6 rfl; have b7 := box_get hB 7 rfl; have b8 := box_get hB 8 rfl) | (go_at_call 45; (with_reducible refine (H4.out _ blw).mono ?_); rintro e w' ⟨rfl, hb'⟩; have hW := bl_step (a := w) blw hb'; have hB := bl_step (a := w.alloc (.cells (ruleC r a1 c1 a2 c2 a3 c3 a4 c4) 28)) blw hb'; clear hb'; (try clear b0 b1 b2 b3 b4 b5 b6 b7 b8); have b0 := box_get hB 0 rfl; have b1 := box_get hB 1 rfl; have b2 := box_get hB 2 rfl; have b3 := box_get hB 3 rfl; have b4 := box_get hB 4 rfl; have b5 := box_get hB 5 rfl; have b6 := box_get hB 6 rfl; have b7 := box_get hB 7 rfl; have b8 := box_get hB 8 rfl))
        go_ret
        exact ⟨ret_bool HF.out.symm, blw⟩
      have d12 := decide_eq_true g12
      by_cases g13 : r.start ≤ 6
      rotate_left
      · have d13 := decide_eq_false g13
        have HF : Hid (v = false) := bnot_true fun h => by
          obtain ⟨f1, f2, f3, f4, f5, f6, f7, f8, f9, f10, f11, f12, f13⟩ := HI.out.1 h
          exact g13 f13
        go_enter Tryz.func22, Tryz.ntmps22
        dsimp only [List.append]
        go_wp2_with (first | (go_at_call 44; (with_reducible refine (HE.out _ blw).mono ?_); rintro e w' ⟨rfl, hb'⟩; have hW := bl_step (a := w) blw hb'; have hB := bl_step (a := w.alloc (.cells (ruleC r a1 c1 a2 c2 a3 c3 a4 c4) 28)) blw hb'; clear hb'; (try clear b0 b1 b2 b3 b4 b5 b6 b7 b8); have b0 := box_get hB 0 rfl; have b1 := box_get hB 1 rfl; have b2 := box_get hB 2 rfl; have b3 := box_get hB 3 rfl; have b4 := box_get hB 4 rfl; have b5 := box_get hB 5 rfl; have b6 := box_get hB 6 rfl; have b7 := box_get hB 7 rfl; have b8 := box_get hB 8 rfl) | (go_at_call 45; (with_reducible refine (H1.out _ blw).mono ?_); rintro e w' ⟨rfl, hb'⟩; have hW := bl_step (a := w) blw hb'; have hB := bl_step (a := w.alloc (.cells (ruleC r a1 c1 a2 c2 a3 c3 a4 c4) 28)) blw hb'; clear hb'; (try clear b0 b1 b2 b3 b4 b5 b6 b7 b8); have b0 := box_get hB 0 rfl; have b1 := box_get hB 1 rfl; have b2 := box_get hB 2 rfl; have b3 := box_get hB 3 rfl; have b4 := box_get hB 4 rfl; have b5 := box_get hB 5 rfl; have b6 := box_get hB 6 rfl; have b7 := box_get hB 7 rfl; have b8 := box_get hB 8 rfl) | (go_at_call 45; (with_reducible refine (H2.out _ blw).mono ?_); rintro e w' ⟨rfl, hb'⟩; have hW := bl_step (a := w) blw hb'; have hB := bl_step (a := w.alloc (.cells (ruleC r a1 c1 a2 c2 a3 c3 a4 c4) 28)) blw hb'; clear hb'; (try clear b0 b1 b2 b3 b4 b5 b6 b7 b8); have b0 := box_get hB 0 rfl; have b1 := box_get hB 1 rfl; have b2 := box_get hB 2 rfl; have b3 := box_get hB 3 rfl; have b4 := box_get hB 4 rfl; have b5 := box_get hB 5 rfl; have b6 := box_get hB 6 rfl; have b7 := box_get hB 7 rfl; have b8 := box_get hB 8 rfl) | (go_at_call 46; (with_reducible refine (HD.out _ blw).mono ?_); rintro e w' ⟨rfl, hb'⟩; have hW := bl_step (a := w) blw hb'; have hB := bl_step (a := w.alloc (.cells (ruleC r a1 c1 a2 c2 a3 c3 a4 c4) 28)) blw hb'; clear hb'; (try clear b0 b1 b2 b3 b4 b5 b6 b7 b8); have b0 := box_get hB 0 rfl; have b1 := box_get hB 1 rfl; have b2 := box_get hB 2 rfl; have b3 := box_get hB 3 rfl; have b4 := box_get hB 4 rfl; have b5 := box_get hB 5 rfl; have b6 := box_get hB 6 rfl; have b7 := box_get hB 7 rfl; have b8 := box_get hB 8 rfl) | (go_at_call 45; (with_reducible refine (H4.out _ blw).mono ?_); rintro e w' ⟨rfl, hb'⟩; have hW := bl_step (a := w) blw hb'; have hB := bl_step (a := w.alloc (.cells (ruleC r a1 c1 a2 c2 a3 c3 a4 c4) 28)) blw hb'; clear hb'; (try clear b0 b1 b2 b3 b4 b5 b6 b7 b8); have b0 := box_get hB 0 rfl; have b1 := box_get hB 1 rfl; have b2 := box_get hB 2 rfl; have b3 := box_get hB 3 rfl; have b4 := box_get hB 4 rfl; have b5 := box_get hB 5 rfl; have b6 := box_get hB 6 rfl; have b7 := box_get hB 7 rfl; have b8 := box_get hB 8 rfl))
        go_ret
        exact ⟨ret_bool HF.out.symm, blw⟩
      have d13 := decide_eq_true g13
      have HF : Hid (v = true) := HI.out.2 ⟨g1, g2, g3, g4, HB5.out, HB6.out, HB7.out, HB8.out, HB9.out, HB10.out, HB11.out, g12, g13⟩
      go_enter Tryz.func22, Tryz.ntmps22
      dsimp only [List.append]
      go_wp2_with (first | (go_at_call 44; (with_reducible refine (HE.out _ blw).mono ?_); rintro e w' ⟨rfl, hb'⟩; have hW := bl_step (a := w) blw hb'; have hB := bl_step (a := w.alloc (.cells (ruleC r a1 c1 a2 c2 a3 c3 a4 c4) 28)) blw hb'; clear hb'; (try clear b0 b1 b2 b3 b4 b5 b6 b7 b8); have b0 := box_get hB 0 rfl; have b1 := box_get hB 1 rfl; have b2 := box_get hB 2 rfl; have b3 := box_get hB 3 rfl; have b4 := box_get hB 4 rfl; have b5 := box_get hB 5 rfl; have b6 := box_get hB 6 rfl; have b7 := box_get hB 7 rfl; have b8 := box_get hB 8 rfl) | (go_at_call 45; (with_reducible refine (H1.out _ blw).mono ?_); rintro e w' ⟨rfl, hb'⟩; have hW := bl_step (a := w) blw hb'; have hB := bl_step (a := w.alloc (.cells (ruleC r a1 c1 a2 c2 a3 c3 a4 c4) 28)) blw hb'; clear hb'; (try clear b0 b1 b2 b3 b4 b5 b6 b7 b8); have b0 := box_get hB 0 rfl; have b1 := box_get hB 1 rfl; have b2 := box_get hB 2 rfl; have b3 := box_get hB 3 rfl; have b4 := box_get hB 4 rfl; have b5 := box_get hB 5 rfl; have b6 := box_get hB 6 rfl; have b7 := box_get hB 7 rfl; have b8 := box_get hB 8 rfl) | (go_at_call 45; (with_reducible refine (H2.out _ blw).mono ?_); rintro e w' ⟨rfl, hb'⟩; have hW := bl_step (a := w) blw hb'; have hB := bl_step (a := w.alloc (.cells (ruleC r a1 c1 a2 c2 a3 c3 a4 c4) 28)) blw hb'; clear hb'; (try clear b0 b1 b2 b3 b4 b5 b6 b7 b8); have b0 := box_get hB 0 rfl; have b1 := box_get hB 1 rfl; have b2 := box_get hB 2 rfl; have b3 := box_get hB 3 rfl; have b4 := box_get hB 4 rfl; have b5 := box_get hB 5 rfl; have b6 := box_get hB 6 rfl; have b7 := box_get hB 7 rfl; have b8 := box_get hB 8 rfl) | (go_at_call 46; (with_reducible refine (HD.out _ blw).mono ?_); rintro e w' ⟨rfl, hb'⟩; have hW := bl_step (a := w) blw hb'; have hB := bl_step (a := w.alloc (.cells (ruleC r a1 c1 a2 c2 a3 c3 a4 c4) 28)) blw hb'; clear hb'; (try clear b0 b1 b2 b3 b4 b5 b6 b7 b8); have b0 := box_get hB 0 rfl; have b1 := box_get hB 1 rfl; have b2 := box_get hB 2 rfl; have b3 := box_get hB 3 rfl; have b4 := box_get hB 4 rfl; have b5 := box_get hB 5 rfl; have b6 := box_get hB 6 rfl; have b7 := box_get hB 7 rfl; have b8 := box_get hB 8 rfl) | (go_at_call 45; (with_reducible refine (H4.out _ blw).mono ?_); rintro e w' ⟨rfl, hb'⟩; have hW := bl_step (a := w) blw hb'; have hB := bl_step (a := w.alloc (.cells (ruleC r a1 c1 a2 c2 a3 c3 a4 c4) 28)) blw hb'; clear hb'; (try clear b0 b1 b2 b3 b4 b5 b6 b7 b8); have b0 := box_get hB 0 rfl; have b1 := box_get hB 1 rfl; have b2 := box_get hB 2 rfl; have b3 := box_get hB 3 rfl; have b4 := box_get hB 4 rfl; have b5 := box_get hB 5 rfl; have b6 := box_get hB 6 rfl; have b7 := box_get hB 7 rfl; have b8 := box_get hB 8 rfl))
      go_ret
      exact ⟨ret_bool HF.out.symm, blw⟩
end Go.Proofs.YthcngkcfopaigaaGreat

namespace Go.Proofs.YthcngkcfopaigaaGreat
open Go.RowKit
theorem era_mono {a b : Int} (h : a < b) : era a < era b := by unfold era; omega
theorem era_le {a b : Int} (h : era a ≤ era b) : a ≤ b := by
  refine Decidable.byContradiction fun hc => ?_
  have := era_mono (a := b) (b := a) (by omega)
  omega
/-- a date as the machine holds it -/
def dateV (n : Int) : Value := .agg #[.int .i64 (dateOf n).1, .int .i64 (dateOf n).2.1, .int .i64 (dateOf n).2.2]
theorem date_lo (n : Int) (_h0 : 0 ≤ n) (_h1 : n < 109938) (hm : (5 * (n + 693901 - era (dyear (n + 693901))) + 2) / 153 < 10) : dateOf n = (dyear (n + 693901), (5 * (n + 693901 - era (dyear (n + 693901))) + 2) / 153 + 3, n + 693901 - era (dyear (n + 693901)) - march ((5 * (n + 693901 - era (dyear (n + 693901))) + 2) / 153) + 1) := by
  simp only [dateOf]; rw [if_neg (by omega)]
theorem date_hi (n : Int) (_h0 : 0 ≤ n) (_h1 : n < 109938) (hm : 10 ≤ (5 * (n + 693901 - era (dyear (n + 693901))) + 2) / 153) : dateOf n = (dyear (n + 693901) + 1, (5 * (n + 693901 - era (dyear (n + 693901))) + 2) / 153 - 9, n + 693901 - era (dyear (n + 693901)) - march ((5 * (n + 693901 - era (dyear (n + 693901))) + 2) / 153) + 1) := by
  simp only [dateOf]; rw [if_pos hm]
set_option maxHeartbeats 1000000 in
theorem date_c (n : Int) (w : World) (h0 : 0 ≤ n) (h1 : n < 109938) : Calls Tryz.prog 101 #[.int .i64 n] w fun e w' => e = .returned (.tuple #[dateV n, .bool true]) ∧ Below w.heap.size w w' := by
  obtain ⟨d1, d2, d3, d4⟩ := dyear_spec (n + 693901) (by omega) (by omega)
  have d5 : dyear (n + 693901) ≤ (n + 693901) / 365 := by unfold dyear; split <;> (try split) <;> omega
  have d6 : (n + 693901) / 365 ≤ 3000 := by omega
  have hl := date_lo n h0 h1
  have hh := date_hi n h0 h1
  have hr : n + 693901 - era (dyear (n + 693901)) ≤ 366 := by
    have : era (dyear (n + 693901) + 1) ≤ era (dyear (n + 693901)) + 366 := by unfold era; omega
    omega
  generalize dyear (n + 693901) = Y at *
  have HL := Hid.mk hl
  have HH := Hid.mk hh
  clear hl hh
  go_enter Tryz.func101, Tryz.ntmps101
  go_wp2_with (go_at_call 123; refine (first_c _).mono ?_; rintro e w' ⟨rfl, rfl⟩)
  go_loop [4] (fun t => ∃ y : Int, Y ≤ y ∧ y ≤ (n + 693901) / 365 ∧ t = .int .i64 y) (fun t => (intOf t - Y).toNat)
  case atStart => exact ⟨_, d5, Int.le_refl _, rfl⟩
  case round =>
    obtain ⟨y, y1, y2, rfl⟩ := hrel
    have hey : 0 ≤ era y ∧ era y ≤ 2000000 := by unfold era; omega
    obtain ⟨hey1, hey2⟩ := hey
    by_cases hc : n + 693901 < era y
    · have hne : Y < y := by
        refine Decidable.byContradiction fun h => ?_
        have : y = Y := by omega
        subst this; omega
      go_wp2_with (go_at_call 124; refine (era_c _ _ (by omega) (by omega)).mono ?_; rintro e w' ⟨rfl, rfl⟩)
      go_round
      case rel => exact ⟨y - 1, by omega, by omega, rfl⟩
      case measure => simp [intOf]; omega
    · have : y = Y := by
        have := era_le (a := Y) (b := y)
        refine Decidable.byContradiction fun h => ?_
        have : era (Y + 1) ≤ era y := by
          by_cases e : y = Y + 1
          · subst e; omega
          · have := era_mono (a := Y + 1) (b := y) (by omega); omega
        omega
      subst this
      have hmb : 0 ≤ march ((5 * (n + 693901 - era y) + 2) / 153) ∧ march ((5 * (n + 693901 - era y) + 2) / 153) ≤ 400 := by unfold march; omega
      obtain ⟨hmb1, hmb2⟩ := hmb
      by_cases h10 : 10 ≤ (5 * (n + 693901 - era y) + 2) / 153
      all_goals
        go_wp2_with (first | (go_at_call 124; refine (era_c _ _ (by omega) (by omega)).mono ?_; rintro e w' ⟨rfl, rfl⟩) | (go_at_call 125; refine (march_c _ _ (by omega) (by omega)).mono ?_; rintro e w' ⟨rfl, rfl⟩))
        refine bodyPost_ret (v := .tuple #[dateV n, .bool true]) ?_ rfl ⟨rfl, blw⟩
        first
          | (rw [dateV, HH.out (by omega)]; simp [results, Tryz.results101, go_sem]; done)
          | (rw [dateV, HL.out (by omega)]; simp [results, Tryz.results101, go_sem]; done)
theorem date_no (n : Int) (w : World) (h : n < 0 ∨ 109938 ≤ n) : Calls Tryz.prog 101 #[.int .i64 n] w fun e w' => e = .returned (.tuple #[.agg #[.int .i64 0, .int .i64 0, .int .i64 0], .bool false]) ∧ Below w.heap.size w w' := by
  rcases h with h | h
  all_goals
    go_enter Tryz.func101, Tryz.ntmps101
    go_wp2
    refine bodyPost_ret (v := .tuple #[.agg #[.int .i64 0, .int .i64 0, .int .i64 0], .bool false]) ?_ rfl ⟨rfl, blw⟩
    simp [results, Tryz.results101, go_sem]
end Go.Proofs.YthcngkcfopaigaaGreat
