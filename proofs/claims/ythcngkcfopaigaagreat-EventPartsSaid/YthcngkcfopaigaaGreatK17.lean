/- The walks of events: whether a time is one of an event's; whether it is changed. -/
import Derived.Test.YthcngkcfopaigaaGreatK16
import Derived.Laws.Rows
namespace Go.Proofs.YthcngkcfopaigaaGreat
open Go.RowKit
theorem ev_size : (Tryz.prog.info? 32).map (·.size) = some 16 := by kernel_rfl
/-- an event is loaded out of its block -/
theorem ev_load {e : EventV} {A : EvA} {ops : Array Oper} {rest : List Oper} {o : Oper} {a : Act} {w : World} {Q : Exit → Act → World → Prop} (hgd : o.guard = none) (x : Operand) (ho : o.op = .load 32 x) (g : Nat) (hx : a.eval x = .pointer (some ⟨g, 0, none⟩))
    (hg : w.heap[g]? = some (.cells (eventC e A) 32 (0, 0))) (h : wpList Tryz.prog ops Q rest (a.put o.dst (.agg (eventC e A))) w) : wpList Tryz.prog ops Q (o :: rest) a w :=
  wpList_load_row hgd 32 x ho g hx 32 (eventC e A) (0, 0) _ hg Tryz.underlying32 rfl ev_size h
set_option maxRecDepth 100000 in
set_option maxHeartbeats 8000000 in
theorem eat_c (e : EventV) (A : EvA) (x : Int) (w : World) (hr : EvAt w e A) :
    Calls Tryz.prog 16 #[.agg (eventC e A), .int .i64 x] w fun y w' => y = .returned (.bool (eat e x)) ∧ Below w.heap.size w w' := by
  have HV := Hid.mk (show eat e x = (emay e && if e.again then !has e.ex x && (has e.plus x || decide (x ∈ allTimes e.rule e.start)) else decide (x = e.start)) from rfl)
  have HM := Hid.mk (fun w' (hb : Below w.heap.size w w') => emay_c e A w' (hr.below hb))
  have n1 := hr.b1
  have n2 := hr.b2
  generalize eat e x = v at *
  cases hm : emay e with
  | false =>
    rw [hm] at HM
    have HF : Hid (v = false) := Hid.mk (by rw [HV.out, hm]; rfl)
    clear hm hr
    go_enter Tryz.func16, Tryz.ntmps16
    try dsimp only [List.append]
    go_wp2_with (first | (refine ev_load rfl _ rfl _ rfl (blk_new _ _) ?_) | (go_at_call 10; (refine (HM.out _ ?_).mono ?_); exact blw; rintro e' w1 ⟨rfl, hb1⟩))
    go_ret
    exact ⟨ret_bool HF.out.symm, bl_step (a := w) blw hb1⟩
  | true =>
  rw [hm] at HM
  have HVM : Hid (v = if e.again then !has e.ex x && (has e.plus x || decide (x ∈ allTimes e.rule e.start)) else decide (x = e.start)) := Hid.mk (by rw [HV.out, hm]; rfl)
  cases ha : e.again with
  | false =>
    have HVA : Hid (v = decide (x = e.start)) := Hid.mk (by rw [HVM.out, ha]; rfl)
    have hc : ((x == e.start) = true ∧ v = true) ∨ ((x == e.start) = false ∧ v = false) := by
      rw [HVA.out]; by_cases h : x = e.start
      · exact .inl ⟨by simpa using h, by simpa using h⟩
      · exact .inr ⟨by simpa using h, by simpa using h⟩
    have HA := Hid.mk ha
    clear hm hr ha
    rcases hc with ⟨hc, hv⟩ | ⟨hc, hv⟩
    all_goals
      have HF := Hid.mk hv
      clear hv
      go_enter Tryz.func16, Tryz.ntmps16
      try dsimp only [List.append]
      go_wp2_with (first | (refine ev_load rfl _ rfl _ rfl (blk_new _ _) ?_) | (go_at_call 10; (refine (HM.out _ ?_).mono ?_); exact blw; rintro e' w1 ⟨rfl, hb1⟩; have u0 := box_get hb1 0 rfl; have u1 := box_get hb1 3 (v := .bool false) (by show some (Value.bool e.again) = some (Value.bool false); rw [HA.out])))
      go_ret
      exact ⟨ret_bool HF.out.symm, bl_step (a := w) blw hb1⟩
  | true =>
    obtain ⟨_, _, _, _, _, _, he1, he2, _⟩ := emay_again hm ha
    have HX := Hid.mk (fun w' (hb : Below w.heap.size w w') => ehas_c A.e1 A.d1 e.ex x w' (hr.r1.below hb) (by omega) he1)
    have HP := Hid.mk (fun w' (hb : Below w.heap.size w w') => ehas_c A.e2 A.d2 e.plus x w' (hr.r2.below hb) (by omega) he2)
    have HH := Hid.mk (fun w' (hb : Below w.heap.size w w') => hasT_c w' e.rule A.a1 A.c1 A.a2 A.c2 A.a3 A.c3 A.a4 A.c4 e.start x (hr.rule.below hb))
    have HVA : Hid (v = (!has e.ex x && (has e.plus x || hasT e.rule e.start x))) := Hid.mk (by rw [HVM.out, ha]; rfl)
    have HA := Hid.mk ha
    clear hm hr he1 he2 ha
    cases hx : has e.ex x with
    | true =>
      rw [hx] at HX
      have HF : Hid (v = false) := Hid.mk (by rw [HVA.out, hx]; rfl)
      clear hx
      go_enter Tryz.func16, Tryz.ntmps16
      try dsimp only [List.append]
      go_wp2_with (first | (refine ev_load rfl _ rfl _ rfl (blk_new _ _) ?_) | (go_at_call 10; (refine (HM.out _ ?_).mono ?_); exact blw; rintro e' w1 ⟨rfl, hb1⟩; have u0 := box_get hb1 0 rfl; have u1 := box_get hb1 3 (v := .bool true) (by show some (Value.bool e.again) = some (Value.bool true); rw [HA.out]); have u2 := box_get hb1 13 rfl; have u3 := box_get hb1 14 rfl; have hB1 := bl_step (a := w) blw hb1) | (go_at_call 39; (with_reducible refine (HX.out _ hB1).mono ?_); rintro e' w2 ⟨rfl, rfl⟩))
      go_ret
      exact ⟨ret_bool HF.out.symm, hB1⟩
    | false =>
      rw [hx] at HX
      have HVX : Hid (v = (has e.plus x || hasT e.rule e.start x)) := Hid.mk (by rw [HVA.out, hx]; rfl)
      clear hx
      cases hp : has e.plus x with
      | true =>
        rw [hp] at HP
        have HF : Hid (v = true) := Hid.mk (by rw [HVX.out, hp]; rfl)
        clear hp
        go_enter Tryz.func16, Tryz.ntmps16
        try dsimp only [List.append]
        go_wp2_with (first | (refine ev_load rfl _ rfl _ rfl (blk_new _ _) ?_) | (go_at_call 10; (refine (HM.out _ ?_).mono ?_); exact blw; rintro e' w1 ⟨rfl, hb1⟩; have u0 := box_get hb1 0 rfl; have u1 := box_get hb1 3 (v := .bool true) (by show some (Value.bool e.again) = some (Value.bool true); rw [HA.out]); have u2 := box_get hb1 13 rfl; have u3 := box_get hb1 14 rfl; have hB1 := bl_step (a := w) blw hb1) | (go_at_call 39; (with_reducible refine (HX.out _ hB1).mono ?_); clear HX; rintro e' w2 ⟨rfl, rfl⟩) | (go_at_call 39; (with_reducible refine (HP.out _ hB1).mono ?_); clear HP; rintro e' w2 ⟨rfl, rfl⟩))
        go_ret
        exact ⟨ret_bool HF.out.symm, hB1⟩
      | false =>
        rw [hp] at HP
        have HF : Hid (v = hasT e.rule e.start x) := Hid.mk (by rw [HVX.out, hp]; rfl)
        clear hp
        generalize hasT e.rule e.start x = u at *
        go_enter Tryz.func16, Tryz.ntmps16
        try dsimp only [List.append]
        go_wp2_with (first | (refine ev_load rfl _ rfl _ rfl (blk_new _ _) ?_) | (go_at_call 10; (refine (HM.out _ ?_).mono ?_); exact blw; rintro e' w1 ⟨rfl, hb1⟩; have u0 := box_get hb1 0 rfl; have u1 := box_get hb1 3 (v := .bool true) (by show some (Value.bool e.again) = some (Value.bool true); rw [HA.out]); have u2 := box_get hb1 13 rfl; have u3 := box_get hb1 14 rfl; have u4 := box_get hb1 4 rfl; have u5 := box_get hb1 5 rfl; have u6 := box_get hb1 6 rfl; have u7 := box_get hb1 7 rfl; have u8 := box_get hb1 8 rfl; have u9 := box_get hb1 9 rfl; have u10 := box_get hb1 10 rfl; have u11 := box_get hb1 11 rfl; have u12 := box_get hb1 12 rfl; have hB1 := bl_step (a := w) blw hb1) | (go_at_call 39; (with_reducible refine (HX.out _ hB1).mono ?_); clear HX; rintro e' w2 ⟨rfl, rfl⟩) | (go_at_call 39; (with_reducible refine (HP.out _ hB1).mono ?_); clear HP; rintro e' w2 ⟨rfl, rfl⟩) | (go_at_call 40; (with_reducible refine (HH.out _ hB1).mono ?_); rintro e' w3 ⟨rfl, hb3⟩))
        go_ret
        exact ⟨ret_bool HF.out.symm, bl_step hB1 hb3⟩
theorem chg1_c (a s l x : Int) (p : Nat) (w : World) (h : w.cell? ⟨p, 0, none⟩ = some (.int .i64 x)) :
    Calls Tryz.prog 79 #[.agg #[.int .i64 a, .int .i64 s, .int .i64 l], .pointer (some ⟨p, 0, none⟩)] w fun y w' => y = .returned (.bool (decide (a = x))) ∧ Below w.heap.size w w' := by
  have hp := block_lt h
  by_cases g : a = x
  · have d1 : (a == x) = true := by simpa using g
    rw [decide_eq_true g]
    clear g
    go_enter Tryz.func79, Tryz.ntmps79
    go_wp2
    go_ret
    exact ⟨rfl, blw⟩
  · have d1 : (a == x) = false := by simpa using g
    rw [decide_eq_false g]
    clear g
    go_enter Tryz.func79, Tryz.ntmps79
    go_wp2
    go_ret
    exact ⟨rfl, blw⟩
set_option maxHeartbeats 4000000 in
theorem chgi_c (a : Option Addr) (cap : Nat) (l : List (Int × Int × Int)) (x : Int) (p : Nat) (w : World) (hr : Row 3 encC w a l) (hbig : l.length ≤ 1000000000000) (h : w.cell? ⟨p, 0, none⟩ = some (.int .i64 x)) :
    Calls Tryz.prog 112 #[.slice a l.length cap, .func (.func 79) #[] #[.pointer (some ⟨p, 0, none⟩)]] w fun y w' =>
      (∃ i : Int, y = .returned (.int .i64 i) ∧ decide (0 ≤ i) = has (ats l) x) ∧ Below w.heap.size w w' := by
  go_enter Tryz.func112, Tryz.ntmps112
  go_wp2
  go_loopw [8] (fun i wr => ∃ k : Nat, k ≤ l.length ∧ i = .int .i64 k ∧ (∀ j, j < k → cat l j ≠ x) ∧ Below w.heap.size w wr) (fun i _ => l.length - (intOf i).toNat)
  case atStart => exact ⟨0, by omega, rfl, fun j h => by omega, Below.refl _ _⟩
  case round =>
    obtain ⟨k, hk, rfl, hno, hB⟩ := hrel
    by_cases hlt : k < l.length
    · obtain ⟨b, off, rfl, hcells⟩ := (hr.below hB).get hlt
      obtain ⟨c0, c1, c2⟩ := row_ch hcells hlt
      have hbz := block_lt c0
      have HC := Hid.mk (chg1_c (cat l k) (cst l k) (clo l k) x p wr (below_get hB h))
      have HNO := Hid.mk hno
      have HY : Hid (cat l k = x → has (ats l) x = true) := Hid.mk fun e => has_yes (k := k) (by rw [ats_length]; exact hlt) (by rw [ats_ig]; exact e)
      clear hno hr hcells h
      generalize hX : cat l k = X at *
      have HX := Hid.mk hX
      clear hX
      generalize cst l k = Y at *
      generalize clo l k = Z at *
      by_cases hv : X = x
      · rw [decide_eq_true hv] at HC
        have HV := Hid.mk hv
        clear hv
        go_wp2_with (go_at_call 79; (refine HC.out.mono ?_); rintro e w' ⟨rfl, hb'⟩)
        go_ret
        exact ⟨⟨k, rfl, by rw [HY.out HV.out]; simp⟩, bl_step hB hb'⟩
      · rw [decide_eq_false hv] at HC
        have HV := Hid.mk hv
        clear hv
        go_wp2_with (go_at_call 79; (refine HC.out.mono ?_); rintro e w' ⟨rfl, hb'⟩)
        go_roundw
        case rel => exact ⟨k + 1, by omega, by go_num, fun j h => by (by_cases e : j = k; subst e; rw [HX.out]; exact HV.out; exact HNO.out j (by omega)), bl_step hB hb'⟩
        case measure => simp [intOf]; omega
    · have HNO := Hid.mk hno
      clear hno
      go_wp2
      go_ret
      exact ⟨⟨-1, rfl, by rw [has_no fun j hj => by rw [ats_ig]; exact HNO.out j (by rw [ats_length] at hj; omega)]; rfl⟩, hB⟩
theorem chgf_c (a : Option Addr) (cap : Nat) (l : List (Int × Int × Int)) (x : Int) (p : Nat) (w : World) (hr : Row 3 encC w a l) (hbig : l.length ≤ 1000000000000) (h : w.cell? ⟨p, 0, none⟩ = some (.int .i64 x)) :
    Calls Tryz.prog 78 #[.slice a l.length cap, .func (.func 79) #[] #[.pointer (some ⟨p, 0, none⟩)]] w fun y w' => y = .returned (.bool (has (ats l) x)) ∧ Below w.heap.size w w' := by
  have HI := Hid.mk (chgi_c a cap l x p w hr hbig h)
  go_enter Tryz.func78, Tryz.ntmps78
  generalize has (ats l) x = v at *
  clear hr h
  go_wp2_with (go_at_call 112; (refine HI.out.mono ?_); rintro e w' ⟨⟨i, rfl, hi⟩, hb'⟩)
  go_ret
  exact ⟨ret_bool (by first | exact hi | (simp; exact hi) | simp), hb'⟩
set_option maxRecDepth 100000 in
theorem chgd_c (e : EventV) (A : EvA) (x : Int) (w : World) (hr : EvAt w e A) :
    Calls Tryz.prog 56 #[.agg (eventC e A), .int .i64 x] w fun y w' => y = .returned (.bool (chgd e x)) ∧ Below w.heap.size w w' := by
  have hmf : ∀ (fn : Fn) (first cap : Array Value) (w : World), (Instr.makeFunc fn first cap).run Tryz.prog w = .ok (.func fn first cap) w := fun _ _ _ _ => rfl
  have HF := Hid.mk (fun w' p (hb : Below w.heap.size w w') h => chgf_c A.e3 A.d3 e.changes x p w' (hr.r3.below hb) (by have := hr.b3; omega) h)
  clear hr
  unfold chgd
  go_enter Tryz.func56, Tryz.ntmps56
  try dsimp only [List.append]
  generalize has (ats e.changes) x = v at *
  go_wp2_with (go_at_call 78; (refine (HF.out _ _ ?_ ?_).mono ?_))
  · exact blw
  · rw [World.cell?_alloc_at _ _ _ _ (by simp)]; rfl
  · rintro e' w1 ⟨rfl, hb1⟩
    go_wp2
    go_ret
    exact ⟨rfl, bl_step (a := w) blw hb1⟩
/-- an event lies in a block of its own -/
structure EvBox (w : World) (p : Nat) (e : EventV) (A : EvA) : Prop where
  cell : ∀ (i : Nat) v, (eventC e A)[i]? = some v → w.cell? ⟨p, i, none⟩ = some v
  ev : EvAt w e A
theorem EvBox.below {w w' : World} {p : Nat} {e : EventV} {A : EvA} (h : EvBox w p e A) (hb : Below w.heap.size w w') : EvBox w' p e A :=
  ⟨fun i v hv => below_get hb (h.cell i v hv), h.ev.below hb⟩
set_option maxRecDepth 100000 in
set_option maxHeartbeats 4000000 in
theorem plain1_c (e : EventV) (A : EvA) (x : Int) (p : Nat) (w : World) (hr : EvBox w p e A) (he : erow e.ex = true) :
    Calls Tryz.prog 55 #[.int .i64 x, .pointer (some ⟨p, 0, none⟩)] w fun y w' => y = .returned (.bool (has e.ex x || chgd e x)) ∧ Below w.heap.size w w' := by
  have k0 := hr.cell 0 _ rfl
  have k1 := hr.cell 1 _ rfl
  have k2 := hr.cell 2 _ rfl
  have k3 := hr.cell 3 _ rfl
  have k4 := hr.cell 4 _ rfl
  have k5 := hr.cell 5 _ rfl
  have k6 := hr.cell 6 _ rfl
  have k7 := hr.cell 7 _ rfl
  have k8 := hr.cell 8 _ rfl
  have k9 := hr.cell 9 _ rfl
  have k10 := hr.cell 10 _ rfl
  have k11 := hr.cell 11 _ rfl
  have k12 := hr.cell 12 _ rfl
  have k13 := hr.cell 13 _ rfl
  have k14 := hr.cell 14 _ rfl
  have k15 := hr.cell 15 _ rfl
  have hp := block_lt k0
  have HX := Hid.mk (fun w' (hb : Below w.heap.size w w') => ehas_c A.e1 A.d1 e.ex x w' (hr.ev.r1.below hb) (by have := hr.ev.b1; omega) he)
  have HC := Hid.mk (fun w' (hb : Below w.heap.size w w') => chgd_c e A x w' (hr.ev.below hb))
  clear hr he
  cases hx : has e.ex x with
  | true =>
    rw [hx] at HX
    clear hx
    rw [Bool.true_or]
    go_enter Tryz.func55, Tryz.ntmps55
    try dsimp only [List.append]
    go_wp2_with (go_at_call 39; (refine (HX.out _ ?_).mono ?_); exact Below.refl _ _; rintro e' w2 ⟨rfl, rfl⟩)
    go_ret
    exact ⟨rfl, blw⟩
  | false =>
    rw [hx] at HX
    clear hx
    rw [Bool.false_or]
    generalize chgd e x = u at *
    go_enter Tryz.func55, Tryz.ntmps55
    try dsimp only [List.append]
    go_wp2_with (first | (go_at_call 39; (refine (HX.out _ ?_).mono ?_); exact Below.refl _ _; rintro e' w2 ⟨rfl, rfl⟩) | (go_at_call 56; (refine (HC.out _ ?_).mono ?_); exact blw; rintro e' w2 ⟨rfl, hb2⟩))
    go_ret
    exact ⟨rfl, bl_step (a := w) blw hb2⟩
end Go.Proofs.YthcngkcfopaigaaGreat
