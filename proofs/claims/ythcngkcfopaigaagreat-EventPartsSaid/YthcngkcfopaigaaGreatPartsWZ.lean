/- The walk of EventParts. -/
import Derived.Test.YthcngkcfopaigaaGreatPartsIZ
namespace Go.Proofs.YthcngkcfopaigaaGreat
set_option linter.unusedVariables false
open Go.RowKit
set_option maxRecDepth 100000 in
set_option maxHeartbeats 8000000 in
theorem parts_c (base : Int) (a : Option Addr) (cap : Nat) (ts : List (Int × Int)) (e : EventV) (A : EvA) (f t q : Int) (w : World) (hz : Row 2 encT w a ts) (hr : EvIn w e A) (hq0 : 0 ≤ q) (hq1 : q < 4294967296) :
    Calls Tryz.prog 5 #[.agg (zoneC base a ts.length cap), .agg (eventC e A), .agg #[.int .i64 f, .int .i64 t], .int .u32 q] w fun y w' => y = .returned (.bool true) ∧ Below w.heap.size w w' := by
  have HF := Hid.mk (fun w => fixed_c w)
  have HG := Hid.mk (fun w => egreat_c e A w)
  have HR := Hid.mk hr
  have hB0 := Below.refl (((w.alloc (.cells (zoneC base a ts.length cap) 24)).alloc (.cells (eventC e A) 32)).alloc (.cells #[.int .i64 f, .int .i64 t] 34)).heap.size (((w.alloc (.cells (zoneC base a ts.length cap) 24)).alloc (.cells (eventC e A) 32)).alloc (.cells #[.int .i64 f, .int .i64 t] 34))
  have hE := (heap3 hB0).2.1
  clear hr
  rcases Bool.eq_false_or_eq_true (decide (50 < (ts.length : Int))) with h1 | h1
  · clear hE
    go_enter Tryz.func5, Tryz.ntmps5
    try dsimp only [List.append]
    go_wp2_with (go_at_call 9; (refine (HF.out _).mono ?_); rintro e' w1 ⟨rfl, hb⟩)
    go_ret
    exact ⟨rfl, bl_step (bl_alloc (bl_alloc (bl_alloc (Below.refl w.heap.size w) _) _) _) hb⟩
  cases hg : egreat e with
  | true =>
    rw [hg] at HG
    clear hg
    go_enter Tryz.func5, Tryz.ntmps5
    try dsimp only [List.append]
    go_wp2_with (first | (refine ev_load rfl _ rfl _ rfl hE ?_) | (go_at_call 8; (refine (HG.out _).mono ?_); rintro e' w0 ⟨rfl, hb0⟩; have hB1 := bl_step (bl_alloc (bl_alloc (bl_alloc (Below.refl w.heap.size w) _) _) _) hb0; clear hE) | (go_at_call 9; (refine (HF.out _).mono ?_); rintro e' w1 ⟨rfl, hb⟩))
    go_ret
    exact ⟨rfl, bl_step hB1 hb⟩
  | false =>
  rw [hg] at HG
  have hea := HR.out.evAt hg
  have HGG := Hid.mk hg
  clear hg
  rcases Bool.eq_false_or_eq_true (decide (t ≤ f)) with h2 | h2
  rotate_left
  rcases Bool.eq_false_or_eq_true (decide (f < -1099511627776)) with h3 | h3
  rotate_left
  rcases Bool.eq_false_or_eq_true (decide (1099511627776 < t)) with h4 | h4
  rotate_left
  rcases Bool.eq_false_or_eq_true (decide (528480 < t - f)) with h5 | h5
  rotate_left
  rcases Bool.eq_false_or_eq_true (decide (t - f < 2)) with h6 | h6
  rotate_left
  · exact parts_in base a cap ts e A f t q w hz hea h1 HGG.out (of_decide_eq_false h2) (of_decide_eq_false h3) (of_decide_eq_false h4) (of_decide_eq_false h5) (of_decide_eq_false h6) hq0 hq1
  all_goals
    try have i1 := IntWalk.i64_in (n := t - f) (by simp only [decide_eq_true_eq, decide_eq_false_iff_not] at *; omega)
    go_enter Tryz.func5, Tryz.ntmps5
    try dsimp only [List.append]
    go_wp2_with (first | (refine ev_load rfl _ rfl _ rfl hE ?_) | (go_at_call 8; (refine (HG.out _).mono ?_); rintro e' w0 ⟨rfl, hb0⟩; obtain ⟨z1, z2, z3⟩ := heap3 hb0; have u0 := blk_cell z3 0 rfl; have u1 := blk_cell z3 1 rfl; have hB1 := bl_step (bl_alloc (bl_alloc (bl_alloc (Below.refl w.heap.size w) _) _) _) hb0; clear hE hB0) | (go_at_call 9; (refine (HF.out _).mono ?_); rintro e' w1 ⟨rfl, hb⟩))
    go_ret
    exact ⟨rfl, bl_step hB1 hb⟩
end Go.Proofs.YthcngkcfopaigaaGreat
