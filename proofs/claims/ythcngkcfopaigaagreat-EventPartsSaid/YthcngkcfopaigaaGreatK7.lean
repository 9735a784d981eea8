/- The walks of a walker's functions: which days are usual. -/
import Derived.Test.YthcngkcfopaigaaGreatK6
import Derived.BigGuardPart
namespace Go.Proofs.YthcngkcfopaigaaGreat
open Go.RowKit
set_option maxRecDepth 100000 in
set_option maxHeartbeats 4000000 in
theorem usual_c (w : World) (p : Nat) (r : RuleV) (a1 : Option Addr) (c1 : Nat) (a2 : Option Addr) (c2 : Nat) (a3 : Option Addr) (c3 : Nat) (a4 : Option Addr) (c4 : Nat) (s mi n : Int)
    (hw : WkAt w p r a1 c1 a2 c2 a3 c3 a4 c4 s mi) (h0 : 0 ≤ n) (h1 : n < 109938) (hs0 : 0 ≤ s) (hs1 : s < 109938) :
    Calls Tryz.prog 138 #[.pointer (some ⟨p, 0, none⟩), .int .i64 n, dateV n] w fun e w' => e = .returned (.bool (rusual r s n)) ∧ Below w.heap.size w w' := by
  rw [dateV_eq]
  have k0 : w.cell? ⟨p, 0, none⟩ = some (.int .i64 r.freq) := hw.cell 0 _ rfl
  have k4 : w.cell? ⟨p, 4, none⟩ = some (.slice a1 r.byMonth.length c1) := hw.cell 4 _ rfl
  have k5 : w.cell? ⟨p, 5, none⟩ = some (.slice a2 r.byMonthDay.length c2) := hw.cell 5 _ rfl
  have k6 : w.cell? ⟨p, 6, none⟩ = some (.slice a3 r.byDay.length c3) := hw.cell 6 _ rfl
  have k9 : w.cell? ⟨p, 9, none⟩ = some (.int .i64 s) := hw.cell 9 _ rfl
  have k11 : w.cell? ⟨p, 11, none⟩ = some (.int .i64 (mo s)) := hw.cell 11 _ rfl
  have k12 : w.cell? ⟨p, 12, none⟩ = some (.int .i64 (da s)) := hw.cell 12 _ rfl
  have hp := block_lt k0
  have n1 := hw.rule.b1
  have n2 := hw.rule.b2
  have n3 := hw.rule.b3
  clear hw
  have HV := Hid.mk (show rusual r s n = (if r.freq = 2 then !rplain r || decide (n % 7 = s % 7) else if r.freq = 3 then !rplain r || decide (da n = da s) else if r.freq = 4 then !rplain r || (decide (da n = da s) && (decide (0 < r.byMonth.length) || decide (mo n = mo s))) else true) from rfl)
  generalize rusual r s n = v at *
  have hP : (((r.byMonthDay.length : Int) == 0) = true ∧ ((r.byDay.length : Int) == 0) = true ∧ rplain r = true) ∨ (((r.byMonthDay.length : Int) == 0) = true ∧ ((r.byDay.length : Int) == 0) = false ∧ rplain r = false) ∨ (((r.byMonthDay.length : Int) == 0) = false ∧ rplain r = false) := by
    by_cases x : r.byMonthDay.length = 0
    · have x' : ((r.byMonthDay.length : Int) == 0) = true := by rw [x]; rfl
      by_cases y : r.byDay.length = 0
      · exact .inl ⟨x', by rw [y]; rfl, by simp [rplain, x, y]⟩
      · exact .inr (.inl ⟨x', by simp; intro h; rw [h] at y; simp at y, by simp [rplain, y]⟩)
    · exact .inr (.inr ⟨by simp; intro h; rw [h] at x; simp at x, by simp [rplain, x]⟩)
  have hQ : ((r.freq == 2) = true ∧ (r.freq = 2)) ∨ ((r.freq == 2) = false ∧ (r.freq == 3) = true ∧ r.freq = 3) ∨ ((r.freq == 2) = false ∧ (r.freq == 3) = false ∧ (r.freq == 4) = true ∧ r.freq = 4) ∨ ((r.freq == 2) = false ∧ (r.freq == 3) = false ∧ (r.freq == 4) = false ∧ ¬ r.freq = 2 ∧ ¬ r.freq = 3 ∧ ¬ r.freq = 4) := by
    simp only [beq_iff_eq, beq_eq_false_iff_ne]; omega
  rcases hQ with ⟨q1, hf⟩ | ⟨q1, q2, hf⟩ | ⟨q1, q2, q3, hf⟩ | ⟨q1, q2, q3, hf, hf', hf''⟩
  · rw [hf] at HV k0
    clear hf q1 k4 k11 k12
    rcases hP with ⟨p1, p2, hpl⟩ | ⟨p1, p2, hpl⟩ | ⟨p1, hpl⟩
    · by_cases hd : n % 7 = s % 7
      · have e1 : (n % 7 == s % 7) = true := by simpa using hd
        have HF : Hid (v = true) := by unfold Hid; rw [HV.out]; simp [hpl, hd]
        (try clear hpl)
        (try clear hd)
        (try clear hm)
        go_enter Tryz.func138, Tryz.ntmps138
        try dsimp only [List.append]
        go_wp2
        go_quiet ((go_at_call 133; exact Calls.quiet_of_same ((weekday_c _ _ (by omega) (by omega)).mono fun _ _ h => ⟨h.1, h.2.symm⟩)))
        go_wp2
        go_ret
        exact ⟨ret_bool HF.out.symm, blw⟩
      · have e1 : (n % 7 == s % 7) = false := by simpa using hd
        have HF : Hid (v = false) := by unfold Hid; rw [HV.out]; simp [hpl, hd]
        (try clear hpl)
        (try clear hd)
        (try clear hm)
        go_enter Tryz.func138, Tryz.ntmps138
        try dsimp only [List.append]
        go_wp2
        go_quiet ((go_at_call 133; exact Calls.quiet_of_same ((weekday_c _ _ (by omega) (by omega)).mono fun _ _ h => ⟨h.1, h.2.symm⟩)))
        go_wp2
        go_ret
        exact ⟨ret_bool HF.out.symm, blw⟩
    · skip
      have HF : Hid (v = true) := by unfold Hid; rw [HV.out]; simp [hpl]
      (try clear hpl)
      (try clear hd)
      (try clear hm)
      go_enter Tryz.func138, Tryz.ntmps138
      try dsimp only [List.append]
      go_wp2
      go_quiet ((go_at_call 133; exact Calls.quiet_of_same ((weekday_c _ _ (by omega) (by omega)).mono fun _ _ h => ⟨h.1, h.2.symm⟩)))
      go_wp2
      go_ret
      exact ⟨ret_bool HF.out.symm, blw⟩
    · skip
      have HF : Hid (v = true) := by unfold Hid; rw [HV.out]; simp [hpl]
      (try clear hpl)
      (try clear hd)
      (try clear hm)
      go_enter Tryz.func138, Tryz.ntmps138
      try dsimp only [List.append]
      go_wp2
      go_quiet ((go_at_call 133; exact Calls.quiet_of_same ((weekday_c _ _ (by omega) (by omega)).mono fun _ _ h => ⟨h.1, h.2.symm⟩)))
      go_wp2
      go_ret
      exact ⟨ret_bool HF.out.symm, blw⟩
  · rw [hf] at HV k0
    clear hf q1 q2 k4 k9 k11
    rcases hP with ⟨p1, p2, hpl⟩ | ⟨p1, p2, hpl⟩ | ⟨p1, hpl⟩
    · by_cases hd : da n = da s
      · have e1 : (da n == da s) = true := by simpa using hd
        have HF : Hid (v = true) := by unfold Hid; rw [HV.out]; simp [hpl, hd]
        (try clear hpl)
        (try clear hd)
        (try clear hm)
        go_enter Tryz.func138, Tryz.ntmps138
        try dsimp only [List.append]
        go_wp2
        go_quiet ((go_at_call 133; exact Calls.quiet_of_same ((weekday_c _ _ (by omega) (by omega)).mono fun _ _ h => ⟨h.1, h.2.symm⟩)))
        go_wp2
        go_ret
        exact ⟨ret_bool HF.out.symm, blw⟩
      · have e1 : (da n == da s) = false := by simpa using hd
        have HF : Hid (v = false) := by unfold Hid; rw [HV.out]; simp [hpl, hd]
        (try clear hpl)
        (try clear hd)
        (try clear hm)
        go_enter Tryz.func138, Tryz.ntmps138
        try dsimp only [List.append]
        go_wp2
        go_quiet ((go_at_call 133; exact Calls.quiet_of_same ((weekday_c _ _ (by omega) (by omega)).mono fun _ _ h => ⟨h.1, h.2.symm⟩)))
        go_wp2
        go_ret
        exact ⟨ret_bool HF.out.symm, blw⟩
    · skip
      have HF : Hid (v = true) := by unfold Hid; rw [HV.out]; simp [hpl]
      (try clear hpl)
      (try clear hd)
      (try clear hm)
      go_enter Tryz.func138, Tryz.ntmps138
      try dsimp only [List.append]
      go_wp2
      go_quiet ((go_at_call 133; exact Calls.quiet_of_same ((weekday_c _ _ (by omega) (by omega)).mono fun _ _ h => ⟨h.1, h.2.symm⟩)))
      go_wp2
      go_ret
      exact ⟨ret_bool HF.out.symm, blw⟩
    · skip
      have HF : Hid (v = true) := by unfold Hid; rw [HV.out]; simp [hpl]
      (try clear hpl)
      (try clear hd)
      (try clear hm)
      go_enter Tryz.func138, Tryz.ntmps138
      try dsimp only [List.append]
      go_wp2
      go_quiet ((go_at_call 133; exact Calls.quiet_of_same ((weekday_c _ _ (by omega) (by omega)).mono fun _ _ h => ⟨h.1, h.2.symm⟩)))
      go_wp2
      go_ret
      exact ⟨ret_bool HF.out.symm, blw⟩
  · rw [hf] at HV k0
    clear hf q1 q2 q3 k9
    rcases hP with ⟨p1, p2, hpl⟩ | ⟨p1, p2, hpl⟩ | ⟨p1, hpl⟩
    · by_cases hd : da n = da s
      rotate_left
      · have e1 : (da n == da s) = false := by simpa using hd
        have HF : Hid (v = false) := by unfold Hid; rw [HV.out]; simp [hpl, hd]
        (try clear hpl)
        (try clear hd)
        (try clear hm)
        go_enter Tryz.func138, Tryz.ntmps138
        try dsimp only [List.append]
        go_wp2
        go_quiet ((go_at_call 133; exact Calls.quiet_of_same ((weekday_c _ _ (by omega) (by omega)).mono fun _ _ h => ⟨h.1, h.2.symm⟩)))
        go_wp2
        go_ret
        exact ⟨ret_bool HF.out.symm, blw⟩
      have e1 : (da n == da s) = true := by simpa using hd
      by_cases hm : 0 < (r.byMonth.length : Int)
      · have HE2 := Hid.mk (decide_eq_true hm)
        have hm2 : 0 < r.byMonth.length := by omega
        have HF : Hid (v = true) := by unfold Hid; rw [HV.out, hpl, decide_eq_true hd, decide_eq_true hm2]; rfl
        (try clear hpl)
        (try clear hd)
        (try clear hm2)
        go_enter Tryz.func138, Tryz.ntmps138
        try dsimp only [List.append]
        go_wp2
        refine wp_region_quiet_lit (by kernel_rfl) (by kernel_rfl) ?_
        repeat (go_big_quiet_step (fail))
        first | rw [HE2.out] | (have e5 : decide (0 < r.byMonth.length) = true := decide_eq_true (by have := of_decide_eq_true HE2.out; omega); rw [e5]) | (have e5 : decide (0 < r.byMonth.length) = false := decide_eq_false (by have := of_decide_eq_false HE2.out; omega); rw [e5])
        repeat (go_big_quiet_step (fail))
        refine wpQuiet_nil ?_
        intro _ hw'
        obtain ⟨nq, hw''⟩ := hw'
        subst hw''
        go_wp2
        go_ret
        exact ⟨ret_bool HF.out.symm, blw⟩
      have HE2 := Hid.mk (decide_eq_false hm)
      by_cases he : mo n = mo s
      · have e3 : (mo n == mo s) = true := by simpa using he
        have HF : Hid (v = true) := by unfold Hid; rw [HV.out, hpl, decide_eq_true hd, decide_eq_true he]; simp
        (try clear hpl)
        (try clear hd)
        (try clear he)
        go_enter Tryz.func138, Tryz.ntmps138
        try dsimp only [List.append]
        go_wp2
        refine wp_region_quiet_lit (by kernel_rfl) (by kernel_rfl) ?_
        repeat (go_big_quiet_step (fail))
        first | rw [HE2.out] | (have e5 : decide (0 < r.byMonth.length) = true := decide_eq_true (by have := of_decide_eq_true HE2.out; omega); rw [e5]) | (have e5 : decide (0 < r.byMonth.length) = false := decide_eq_false (by have := of_decide_eq_false HE2.out; omega); rw [e5])
        repeat (go_big_quiet_step (fail))
        refine wpQuiet_nil ?_
        intro _ hw'
        obtain ⟨nq, hw''⟩ := hw'
        subst hw''
        go_wp2
        go_ret
        exact ⟨ret_bool HF.out.symm, blw⟩
      · have e3 : (mo n == mo s) = false := by simpa using he
        have hm2 : ¬ 0 < r.byMonth.length := by omega
        have HF : Hid (v = false) := by unfold Hid; rw [HV.out, hpl, decide_eq_true hd, decide_eq_false he, decide_eq_false hm2]; rfl
        (try clear hpl)
        (try clear hd)
        (try clear he); (try clear hm2)
        go_enter Tryz.func138, Tryz.ntmps138
        try dsimp only [List.append]
        go_wp2
        refine wp_region_quiet_lit (by kernel_rfl) (by kernel_rfl) ?_
        repeat (go_big_quiet_step (fail))
        first | rw [HE2.out] | (have e5 : decide (0 < r.byMonth.length) = true := decide_eq_true (by have := of_decide_eq_true HE2.out; omega); rw [e5]) | (have e5 : decide (0 < r.byMonth.length) = false := decide_eq_false (by have := of_decide_eq_false HE2.out; omega); rw [e5])
        repeat (go_big_quiet_step (fail))
        refine wpQuiet_nil ?_
        intro _ hw'
        obtain ⟨nq, hw''⟩ := hw'
        subst hw''
        go_wp2
        go_ret
        exact ⟨ret_bool HF.out.symm, blw⟩
    · skip
      have HF : Hid (v = true) := by unfold Hid; rw [HV.out]; simp [hpl]
      (try clear hpl)
      (try clear hd)
      (try clear hm)
      go_enter Tryz.func138, Tryz.ntmps138
      try dsimp only [List.append]
      go_wp2
      go_quiet ((go_at_call 133; exact Calls.quiet_of_same ((weekday_c _ _ (by omega) (by omega)).mono fun _ _ h => ⟨h.1, h.2.symm⟩)))
      go_wp2
      go_ret
      exact ⟨ret_bool HF.out.symm, blw⟩
    · skip
      have HF : Hid (v = true) := by unfold Hid; rw [HV.out]; simp [hpl]
      (try clear hpl)
      (try clear hd)
      (try clear hm)
      go_enter Tryz.func138, Tryz.ntmps138
      try dsimp only [List.append]
      go_wp2
      go_quiet ((go_at_call 133; exact Calls.quiet_of_same ((weekday_c _ _ (by omega) (by omega)).mono fun _ _ h => ⟨h.1, h.2.symm⟩)))
      go_wp2
      go_ret
      exact ⟨ret_bool HF.out.symm, blw⟩
  · have HF : Hid (v = true) := by unfold Hid; rw [HV.out, if_neg hf, if_neg hf', if_neg hf'']
    clear hf hf' hf'' k4 k9 k11 k12
    rcases hP with ⟨p1, p2, hpl⟩ | ⟨p1, p2, hpl⟩ | ⟨p1, hpl⟩
    all_goals
      clear hpl
      go_enter Tryz.func138, Tryz.ntmps138
      try dsimp only [List.append]
      go_wp2
      go_ret
      exact ⟨ret_bool HF.out.symm, blw⟩
end Go.Proofs.YthcngkcfopaigaaGreat
