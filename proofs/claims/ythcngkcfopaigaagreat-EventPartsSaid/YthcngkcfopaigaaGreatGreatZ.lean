/- The walks of the statements' own functions that say what is too long to ask about. -/
import Derived.Test.YthcngkcfopaigaaGreatOpenZ
import Derived.Test.YthcngkcfopaigaaGreatK17
import Derived.Test.YthcngkcfopaigaaGreatK16
namespace Go.Proofs.YthcngkcfopaigaaGreat
set_option linter.unusedVariables false
open Go.RowKit
set_option maxRecDepth 100000 in
set_option maxHeartbeats 4000000 in
theorem rgreat_c (r : RuleV) (a1 : Option Addr) (c1 : Nat) (a2 : Option Addr) (c2 : Nat) (a3 : Option Addr) (c3 : Nat) (a4 : Option Addr) (c4 : Nat) (w : World) :
    Calls Tryz.prog 19 #[.agg (ruleC r a1 c1 a2 c2 a3 c3 a4 c4)] w fun e w' => e = .returned (.bool (rgreat r)) ∧ Below w.heap.size w w' := by
  have HV := Hid.mk (show rgreat r = (decide (100 < r.byMonth.length) || decide (100 < r.byMonthDay.length) || decide (200 < r.byDay.length) || decide (900 < r.bySetPos.length)) from rfl)
  generalize rgreat r = v at *
  rcases Bool.eq_false_or_eq_true (decide (100 < (r.byMonth.length : Int))) with h1 | h1
  rotate_left
  rcases Bool.eq_false_or_eq_true (decide (100 < (r.byMonthDay.length : Int))) with h2 | h2
  rotate_left
  rcases Bool.eq_false_or_eq_true (decide (200 < (r.byDay.length : Int))) with h3 | h3
  rotate_left
  rcases Bool.eq_false_or_eq_true (decide (900 < (r.bySetPos.length : Int))) with h4 | h4
  rotate_left
  all_goals
    go_enter Tryz.func19, Tryz.ntmps19
    try dsimp only [List.append]
    go_wp2
    go_ret
    refine ⟨ret_bool ?_, blw⟩
    rw [HV.out]
    simp only [decide_eq_true_eq, decide_eq_false_iff_not] at *
    simp
    omega
set_option maxRecDepth 100000 in
set_option maxHeartbeats 4000000 in
theorem egreat_c (e : EventV) (A : EvA) (w : World) :
    Calls Tryz.prog 8 #[.agg (eventC e A)] w fun x w' => x = .returned (.bool (egreat e)) ∧ Below w.heap.size w w' := by
  have HV := Hid.mk (show egreat e = (decide (100 < e.ex.length) || decide (100 < e.plus.length) || decide (100 < e.changes.length) || rgreat e.rule) from rfl)
  have HR := Hid.mk (fun w => rgreat_c e.rule A.a1 A.c1 A.a2 A.c2 A.a3 A.c3 A.a4 A.c4 w)
  generalize egreat e = v at *
  generalize rgreat e.rule = g at *
  rcases Bool.eq_false_or_eq_true (decide (100 < (e.ex.length : Int))) with h1 | h1
  rotate_left
  rcases Bool.eq_false_or_eq_true (decide (100 < (e.plus.length : Int))) with h2 | h2
  rotate_left
  rcases Bool.eq_false_or_eq_true (decide (100 < (e.changes.length : Int))) with h3 | h3
  rotate_left
  · go_enter Tryz.func8, Tryz.ntmps8
    try dsimp only [List.append]
    go_wp2_with (go_at_call 19; (refine (HR.out _).mono ?_); rintro e' w1 ⟨rfl, hb1⟩; have hB1 := bl_step (a := w) blw hb1)
    go_ret
    refine ⟨ret_bool ?_, hB1⟩
    rw [HV.out]
    simp only [decide_eq_true_eq, decide_eq_false_iff_not] at *
    rw [decide_eq_false (by omega), decide_eq_false (by omega), decide_eq_false (by omega)]
    rfl
  all_goals
    go_enter Tryz.func8, Tryz.ntmps8
    try dsimp only [List.append]
    go_wp2
    go_ret
    refine ⟨ret_bool ?_, blw⟩
    rw [HV.out]
    simp only [decide_eq_true_eq, decide_eq_false_iff_not] at *
    simp
    omega
set_option maxHeartbeats 4000000 in
theorem sames_c (a b : Option Addr) (c d : Nat) (l m : List (Int × Int)) (w : World) (hl : Row 2 encD w a l) (hm : Row 2 encD w b m) (hbig : l.length ≤ 1000000000000000) (hbig2 : m.length ≤ 1000000000000000) :
    Calls Tryz.prog 12 #[.slice a l.length c, .slice b m.length d] w fun e w' => e = .returned (.bool (decide (l = m))) ∧ Below w.heap.size w w' := by
  by_cases hn : l.length = m.length
  rotate_left
  · have d1 : ((l.length : Int) != (m.length : Int)) = true := by simp; omega
    have HF : Hid (decide (l = m) = false) := Hid.mk (decide_eq_false fun e => hn (by rw [e]))
    generalize decide (l = m) = v at *
    go_enter Tryz.func12, Tryz.ntmps12
    go_wp2
    go_ret
    exact ⟨ret_bool HF.out.symm, blw⟩
  · have d1 : ((l.length : Int) != (m.length : Int)) = false := by simp; omega
    have HN := Hid.mk hn
    clear hn
    go_enter Tryz.func12, Tryz.ntmps12
    go_wp2
    go_loopw [13] (fun i wr => ∃ k : Nat, k ≤ l.length ∧ i = .int .i64 k ∧ (∀ j, j < k → dn l j = dn m j ∧ dd l j = dd m j) ∧ Below w.heap.size w wr) (fun i _ => l.length - (intOf i).toNat)
    case atStart => exact ⟨0, by omega, rfl, fun j h => by omega, Below.refl _ _⟩
    case round =>
      obtain ⟨k, k1, rfl, hok, hB⟩ := hrel
      by_cases hlt : k < l.length
      · have hlt2 : k < m.length := by have := HN.out; omega
        obtain ⟨b1, o1, rfl, hc1⟩ := (hl.below hB).get hlt
        obtain ⟨b2, o2, rfl, hc2⟩ := (hm.below hB).get hlt2
        obtain ⟨c0, c1⟩ := row_d hc1 hlt
        obtain ⟨c2, c3⟩ := row_d hc2 hlt2
        have hz1 := block_lt c0
        have hz2 := block_lt c2
        have i0 : (0 : Int) ≤ (k : Int) := by omega
        have i1 : (k : Int) < (l.length : Int) := by omega
        have i2 : (k : Int) < (m.length : Int) := by omega
        have HOK := Hid.mk hok
        have HNO : Hid (¬ (dn l k = dn m k ∧ dd l k = dd m k) → l ≠ m) := Hid.mk (fun h e => h (by rw [e]; exact ⟨rfl, rfl⟩))
        have HX : Hid ((dn l k = dn m k ∧ dd l k = dd m k) → ∀ j, j < k + 1 → dn l j = dn m j ∧ dd l j = dd m j) := Hid.mk (fun h j hj => by (by_cases e : j = k; subst e; exact h; exact HOK.out j (by omega)))
        clear hok hc1 hc2 hl hm
        generalize dn l k = X at *
        generalize dn m k = Y at *
        generalize dd l k = X2 at *
        generalize dd m k = Y2 at *
        by_cases hxy : X = Y ∧ X2 = Y2
        · obtain ⟨rfl, rfl⟩ := hxy
          have HE := Hid.mk (HX.out ⟨rfl, rfl⟩)
          clear HX HNO
          go_wp2
          go_quiet (fail)
          go_wp2
          go_roundw
          case rel => exact ⟨k + 1, by omega, by go_num, HE.out, bl_drewN hB _⟩
          case measure => simp [intOf]; omega
        · have HE := Hid.mk (decide_eq_false (HNO.out hxy))
          have hc : (X == Y) = false ∨ ((X == Y) = true ∧ (X2 == Y2) = false) := by
            by_cases h1 : X = Y
            · by_cases h2 : X2 = Y2
              · exact absurd ⟨h1, h2⟩ hxy
              · exact .inr ⟨by simpa using h1, by simpa using h2⟩
            · exact .inl (by simpa using h1)
          clear hxy HX HNO
          rcases hc with e1 | ⟨e1, e2⟩
          all_goals
            go_wp2
            go_quiet (fail)
            go_wp2
            go_ret
            exact ⟨ret_bool HE.out.symm, bl_drewN hB _⟩
      · have HE : Hid (decide (l = m) = true) := Hid.mk (decide_eq_true (list_ext_dn HN.out fun j hj => hok j (by omega)))
        clear hok
        go_wp2
        go_ret
        exact ⟨ret_bool HE.out.symm, hB⟩
end Go.Proofs.YthcngkcfopaigaaGreat
