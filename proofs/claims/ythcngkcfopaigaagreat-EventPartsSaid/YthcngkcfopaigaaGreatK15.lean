/- The walks of recurrence: the times between two stamps.
The walk of recurrence's Between: the times between two stamps.
The walks of recurrence: Between where there is nothing; Has.
The walks of events: stamps, rows, changes. -/
import Derived.Test.YthcngkcfopaigaaGreatK14
import Derived.Maps.AppendAt
import Derived.Maps.OwnIn
import Derived.Sort.CutIn
import Derived.Test.YthcngkcfopaigaaGreatK2
namespace Go.Proofs.YthcngkcfopaigaaGreat
open Go.RowKit Go.Shelf
attribute [local go_sem] Oper.semAt_some
theorem wfrom_c (w : World) (p : Nat) (k : Int) : Calls Tryz.prog 74 #[.pointer (some ⟨p, 0, none⟩), .int .i64 k] w fun e w' =>
    e = .returned (.func (.func 102) #[] #[.pointer (some ⟨w.heap.size, 0, none⟩), .pointer (some ⟨w.heap.size + 1, 0, none⟩)]) ∧ (w.alloc (.cells #[.pointer (some ⟨p, 0, none⟩)] 103)).alloc (.cells #[.int .i64 k] 3) = w' := by
  have hmf : ∀ (fn : Fn) (first cap : Array Value) (w : World), (Instr.makeFunc fn first cap).run Tryz.prog w = .ok (.func fn first cap) w := fun _ _ _ _ => rfl
  go_enter Tryz.func74, Tryz.ntmps74
  go_wp2
  go_ret
  exact ⟨rfl, rfl⟩
set_option maxRecDepth 100000 in
set_option maxHeartbeats 4000000 in
theorem from_stops (wb w : World) (B : Nat) (t : TypeId) (n p bw bk : Nat) (r : RuleV) (a1 : Option Addr) (c1 : Nat) (a2 : Option Addr) (c2 : Nat) (a3 : Option Addr) (c3 : Nat) (a4 : Option Addr) (c4 : Nat) (s mi k0 : Int)
    (hr : RuleAt wb r a1 a2 a3 a4) (hs0 : 0 ≤ s) (hs1 : s < 109938) (hm0 : 0 ≤ mi) (hm1 : mi < 1440) (hi1 : 1 ≤ r.interval) (hi2 : r.interval ≤ 999) (hf1 : 1 ≤ r.freq) (hf4 : r.freq ≤ 4) (hst0 : 0 ≤ r.start) (hst1 : r.start ≤ 6)
    (hct : 0 < r.count → ¬ 0 ≤ r.till) (hk0 : 0 ≤ k0) (hk1 : k0 * r.interval ≤ 120000)
    (hI : ItInv wb B t p (walkC r a1 c1 a2 c2 a3 c3 a4 c4 s mi) 135 w) (hbw : w.cell? ⟨bw, 0, none⟩ = some (.pointer (some ⟨p, 0, none⟩))) (hbk : w.cell? ⟨bk, 0, none⟩ = some (.int .i64 k0)) :
    SeqStopsK Fence.wide n Tryz.prog 102 #[.pointer (some ⟨bw, 0, none⟩), .pointer (some ⟨bk, 0, none⟩)] (fun x : Int => #[Value.int .i64 x]) (KpB wb.heap.size B t)
      (fun ys => ys = hand r s mi k0) (fun pre => pre <+: hand r s mi k0) (hand r s mi k0).length w := fun l J Jx W hW hJ _ hY h0 => by
  have hdd : ∀ k : Nat, (Fence.wide.depth.isSome = true → 1 ≤ k) := fun k h => by simp [Fence.wide] at h
  have cw := below_get hW hbw
  have ck := below_get hW hbk
  have HT := Hid.mk (fun n => times_in wb B t n p l r a1 c1 a2 c2 a3 c3 a4 c4 s mi k0 hr hs0 hs1 hm0 hm1 hi1 hi2 hf1 hf4 hst0 hst1 hct hk0 hk1 J Jx (fun m pre x W1 hj hl => yield_deep rfl m (hY pre x W1 hj hl)) W
    (fun pre w1 w2 h hb => hJ pre w1 w2 none h (grown_of_below hb) (fun r e => by cases e)) (hI.step hW) h0)
  clear hY hJ hI
  refine callsIn_of_wp Tryz.func102 rfl trivial ?_ rfl
  simp only [Tryz.ntmps102, List.size_toArray, List.length_cons, List.length_nil, Nat.reduceAdd, Nat.reduceSub, Array.replicate_succ, Array.replicate_zero, List.push_toArray, List.append_toArray, List.nil_append, List.cons_append]
  gi_wp2_with (refine ⟨trivial, hdd _, ?_⟩; gi_at_call 103; refine (HT.out _).mono ?_; rintro e W1 ⟨⟨v, rfl⟩, h⟩)
  go_end0
  exact ⟨⟨_, rfl⟩, h⟩
theorem heap6 (w : World) (o0 o1 o2 o3 o4 o5 : Obj) : ((((((w.alloc o0).alloc o1).alloc o2).alloc o3).alloc o4).alloc o5).heap[w.heap.size + 1]? = some o1 ∧ ((((((w.alloc o0).alloc o1).alloc o2).alloc o3).alloc o4).alloc o5).heap[w.heap.size + 1 + 1]? = some o2 ∧
    ((((((w.alloc o0).alloc o1).alloc o2).alloc o3).alloc o4).alloc o5).heap[w.heap.size + 1 + 1 + 1]? = some o3 ∧ ((((((w.alloc o0).alloc o1).alloc o2).alloc o3).alloc o4).alloc o5).heap[w.heap.size + 1 + 1 + 1 + 1]? = some o4 ∧ ((((((w.alloc o0).alloc o1).alloc o2).alloc o3).alloc o4).alloc o5).heap[w.heap.size + 1 + 1 + 1 + 1 + 1]? = some o5 := by
  have n1 := blk_new (w.alloc o0) o1
  have n2 := blk_new ((w.alloc o0).alloc o1) o2
  have n3 := blk_new (((w.alloc o0).alloc o1).alloc o2) o3
  have n4 := blk_new ((((w.alloc o0).alloc o1).alloc o2).alloc o3) o4
  have n5 := blk_new (((((w.alloc o0).alloc o1).alloc o2).alloc o3).alloc o4) o5
  simp only [World.size_alloc] at n1 n2 n3 n4 n5
  exact ⟨blk_alloc (blk_alloc (blk_alloc (blk_alloc n1 _) _) _) _, blk_alloc (blk_alloc (blk_alloc n2 _) _) _, blk_alloc (blk_alloc n3 _) _, blk_alloc n4 _, n5⟩
theorem boxes6 {w w1 : World} {o0 : Obj} {v1 v2 v3 v4 v5 : Value} {t1 t2 t3 t4 t5 : TypeId}
    (h : Below ((((((w.alloc o0).alloc (.cells #[v1] t1)).alloc (.cells #[v2] t2)).alloc (.cells #[v3] t3)).alloc (.cells #[v4] t4)).alloc (.cells #[v5] t5)).heap.size ((((((w.alloc o0).alloc (.cells #[v1] t1)).alloc (.cells #[v2] t2)).alloc (.cells #[v3] t3)).alloc (.cells #[v4] t4)).alloc (.cells #[v5] t5)) w1) :
    Boxed w1 (w.heap.size + 1) t1 v1 ∧ Boxed w1 (w.heap.size + 1 + 1) t2 v2 ∧ Boxed w1 (w.heap.size + 1 + 1 + 1) t3 v3 ∧ Boxed w1 (w.heap.size + 1 + 1 + 1 + 1) t4 v4 ∧ Boxed w1 (w.heap.size + 1 + 1 + 1 + 1 + 1) t5 v5 := by
  obtain ⟨n1, n2, n3, n4, n5⟩ := heap6 w o0 (.cells #[v1] t1) (.cells #[v2] t2) (.cells #[v3] t3) (.cells #[v4] t4) (.cells #[v5] t5)
  exact ⟨blk_below n1 h, blk_below n2 h, blk_below n3 h, blk_below n4 h, blk_below n5 h⟩
theorem own_append_in {F : Fence} {n : Nat} {e t : TypeId} {ops : Array Oper} {rest : List Oper} {o : Oper} {a : Act} {Q : Exit → Act → World → Prop} {w : World} (hI : (Tryz.prog.info? e).map (fun i => (i.zero, i.size, i.bytes)) = some (some (.int .i64 0), 1, 8))
    (ht : Tryz.prog.underlying t = some (.slice e)) (hgd : o.guard = none) (s x : Operand) (ho : o.op = .call { callee := .builtin .append, args := #[s, x], argTypes := #[t, t] })
    (base : Nat) (v : Value) (xs : List Int) (m : Int) (k : Nat) (hs : a.eval s = v) (hown : Own w base e v xs) (hx : a.eval x = .slice (some ⟨k, 0, none⟩) 1 1) (hn : w.cell? ⟨k, 0, none⟩ = some (.int .i64 m))
    (hl : xs.length ≤ 1000000000000) (hbase : base ≤ w.heap.size)
    (h : ∀ v' w', Own w' base e v' (xs ++ [m]) → w.grownBy w' v.ownBlock → (v'.ownBlock = v.ownBlock ∨ v'.ownBlock = some w.heap.size) → wpListIn F n Tryz.prog ops Q rest (a.put o.dst v') w') : wpListIn F n Tryz.prog ops Q (o :: rest) a w := by
  obtain ⟨i0, hi, hz0, hz1, hz2⟩ := info_parts hI
  have hm : (1000000000000 : Nat) + 1 ≤ maxLen := by decide
  refine wpListIn_append_own_at w hgd s x t ho base e i0 (.int .i64 0) 1 8 ht hi hz0 hz1 hz2 rfl (by decide) v xs.length _ hs hown ⟨k, 0, none⟩ 1 1 [.int .i64 m] hx rfl ?_ ?_ (by omega) (by omega) hbase ?_
  · intro j u hj
    match j, hj with
    | 0, hj => simp at hj; subst hj; exact hn
  · intro u hu; simp at hu; subst hu; rfl
  · intro v' w' h1 h2 _ h4
    refine h v' w' ?_ h2 h4
    unfold Own; rw [List.length_append, List.map_append]; exact h1
theorem own_lt {w : World} {b : Nat} {e : TypeId} {v : Value} {xs : List Int} (h : Own w b e v xs) : ∀ k, v.ownBlock = some k → k < w.heap.size ∧ ∃ cur, w.heap[k]? = some (.cells cur e (0, 0)) := by
  intro k hk
  rcases h.2 with ⟨rfl, _⟩ | ⟨g, cap, cur, rfl, _, hh, _⟩
  · simp [Value.ownBlock] at hk
  · simp [Value.ownBlock] at hk; subst hk; exact ⟨blk_lt hh, cur, hh⟩
theorem own_set {w : World} {b : Nat} {e : TypeId} {v : Value} {xs : List Int} (h : Own w b e v xs) {a : Addr} {u : Value} (hne : v.ownBlock ≠ some a.block) : Own (w.setCell a u) b e v xs := by
  refine ⟨h.1, h.2.imp id ?_⟩
  rintro ⟨g, cap, cur, rfl, h2, h3, h4⟩
  refine ⟨g, cap, cur, rfl, h2, blk_set_ne h3 (fun e => hne (by simp [Value.ownBlock, e])) u, h4⟩
theorem own_put {w : World} {b : Nat} {e : TypeId} {v : Value} {xs : List Int} (h : Own w b e v xs) {l : Nat} {o o' : Obj} (hl : w.heap[l]? = some o) (ho : o.isCells = false) : Own (w.putObj l o') b e v xs := ownsRow_putObj h o' hl ho
/-- between two rounds: what has been collected lies in a slice of the call's own; the variables hold what they held -/
structure BtI (w : World) (O : Nat) (f t most : Int) (pre : List Int) (W : World) : Prop where
  row : ∃ v, Boxed W O 29 v ∧ Own W w.heap.size 2 v (pre.filter (fun x => decide (f ≤ x))) ∧ ∀ k, v.ownBlock = some k → O < k
  bel : Below w.heap.size w W
  lt : ∀ y ∈ pre, y < t
  b1 : Boxed W (w.heap.size + 1) 2 (.int .i64 f)
  b2 : Boxed W (w.heap.size + 1 + 1) 2 (.int .i64 t)
  b3 : Boxed W (w.heap.size + 1 + 1 + 1) 3 (.int .i64 most)
  b4 : Boxed W (w.heap.size + 1 + 1 + 1 + 1) 29 (.slice none 0 0)
  b5 : Boxed W (w.heap.size + 1 + 1 + 1 + 1 + 1) 4 (.bool false)
/-- a round has left -/
def BtX (w : World) (f t most : Int) (c : Code) (pre : List Int) (W : World) : Prop :=
  c = .ret ∧ ∃ q x, pre = q ++ [x] ∧ (∀ y ∈ q, y < t) ∧ Below w.heap.size w W ∧ ((t ≤ x ∧ (∃ v, Boxed W (w.heap.size + 1 + 1 + 1 + 1) 29 v ∧ Own W w.heap.size 2 v (q.filter (fun x => decide (f ≤ x)))) ∧ Boxed W (w.heap.size + 1 + 1 + 1 + 1 + 1) 4 (.bool true)) ∨
    (f ≤ x ∧ x < t ∧ most ≤ ((q.filter (fun x => decide (f ≤ x))).length : Int)))
theorem box_keep {B : Nat} {t : TypeId} {v : Value} {W W' : World} {row : Option Nat} (h : Boxed W B t v) (hg : W.grownBy W' row) (hr : ∀ r, row = some r → ∃ o : Obj, W.heap[r]? = some o ∧ o.isCells = false) : Boxed W' B t v :=
  boxed_own (β := Unit) B t (fun _ => v) () W W' row h hg hr
theorem own_keep {b : Nat} {e : TypeId} {v : Value} {xs : List Int} {W W' : World} {row : Option Nat} (h : Own W b e v xs) (hg : W.grownBy W' row) (hr : ∀ r, row = some r → ∃ o : Obj, W.heap[r]? = some o ∧ o.isCells = false) : Own W' b e v xs := by
  refine World.ownsRow.kept h hg ?_
  rcases h.2 with ⟨rfl, _⟩ | ⟨g, cap, cur, rfl, _, hgb, _⟩
  · exact .inl rfl
  · refine .inr fun e' => ?_
    obtain ⟨o, ho, hc⟩ := hr g (by simpa [Value.ownBlock] using e'.symm)
    rw [hgb] at ho; cases ho; cases hc
theorem btI_own {w : World} {O : Nat} {f t most : Int} {B : Nat} (hB : w.heap.size ≤ B) : OwnFrom B (BtI w O f t most) := by
  intro pre W W' row h hg hr
  have hr' := fun r e => (hr r e).2
  obtain ⟨v, h1, h2, h3⟩ := h.row
  exact ⟨⟨v, box_keep h1 hg hr', own_keep h2 hg hr', h3⟩, h.bel.grown hg h.bel.size (fun k e => Nat.le_trans hB (hr k e).1), h.lt, box_keep h.b1 hg hr', box_keep h.b2 hg hr', box_keep h.b3 hg hr', box_keep h.b4 hg hr', box_keep h.b5 hg hr'⟩
theorem btX_own {w : World} {f t most : Int} {B : Nat} (hB : w.heap.size ≤ B) (c : Code) : OwnFrom B (BtX w f t most c) := by
  rintro pre W W' row ⟨hc, q, x, hq, hl, hb, h⟩ hg hr
  have hr' := fun r e => (hr r e).2
  refine ⟨hc, q, x, hq, hl, hb.grown hg hb.size (fun k e => Nat.le_trans hB (hr k e).1), ?_⟩
  rcases h with ⟨h1, ⟨v, h2, h3⟩, h4⟩ | h
  · exact .inl ⟨h1, ⟨v, box_keep h2 hg hr', own_keep h3 hg hr'⟩, box_keep h4 hg hr'⟩
  · exact .inr h
/-- one more has been collected -/
theorem btI_next {w : World} {O : Nat} {f t most : Int} {pre : List Int} {W w1 : World} {x : Int} {v v' : Value} {tmp : Obj} (h : BtI w O f t most pre W) (hO : w.heap.size + 1 + 1 + 1 + 1 + 1 < O) (h1 : Boxed W O 29 v)
    (h3 : ∀ k, v.ownBlock = some k → O < k) (hlt : x < t) (hf : f ≤ x)
    (ho : Own w1 w.heap.size 2 v' (pre.filter (fun x => decide (f ≤ x)) ++ [x])) (hg : (W.alloc tmp).grownBy w1 v.ownBlock) (hat : v'.ownBlock = v.ownBlock ∨ v'.ownBlock = some (W.alloc tmp).heap.size)
    (hown : Own W w.heap.size 2 v (pre.filter (fun x => decide (f ≤ x)))) :
    Boxed w1 O 29 v ∧ KeepsOthers W (w1.setCell ⟨O, 0, none⟩ v') ∧ KpB w.heap.size O 29 W (w1.setCell ⟨O, 0, none⟩ v') ∧ BtI w O f t most (pre ++ [x]) (w1.setCell ⟨O, 0, none⟩ v') := by
  have hOl := h1.lt
  have hv1 : Boxed w1 O 29 v := (h1.alloc tmp).kept hg (fun e => by have := h3 O e.symm; omega)
  have hb : ∀ B' t' u, Boxed W B' t' u → B' < O → Boxed (w1.setCell ⟨O, 0, none⟩ v') B' t' u := fun B' t' u hu hB' =>
    (((hu.alloc tmp).kept hg (fun e => by have := h3 B' e.symm; omega))).other (by omega) _
  have h3' : ∀ k, v'.ownBlock = some k → O < k := by
    intro k hk
    rcases hat with e | e
    · exact h3 k (e ▸ hk)
    · rw [e] at hk; cases hk; simp; omega
  have hbel : Below w.heap.size W (w1.setCell ⟨O, 0, none⟩ v') := by
    refine ((((Below.refl w.heap.size W).alloc h.bel.size tmp).grown hg (by have := h.bel.size; simp; omega) (fun k e => by have := h3 k e; omega)).setCell (p := ⟨O, 0, none⟩) (by show w.heap.size ≤ O; omega) v')
  have hfil : (pre ++ [x]).filter (fun x => decide (f ≤ x)) = pre.filter (fun x => decide (f ≤ x)) ++ [x] := by rw [List.filter_append]; simp [hf]
  have hks : KeepsOthers W (w1.setCell ⟨O, 0, none⟩ v') := by
    refine ((KeepsOthers.alloc W tmp).trans (KeepsOthers.of_grownBy hg fun j o ej hj => ?_)).trans (KeepsOthers.setCell _ _ _)
    obtain ⟨_, cur, hc⟩ := own_lt hown j ej
    rw [blk_alloc hc tmp] at hj; cases hj; rfl
  refine ⟨hv1, hks, kpB_of hbel h1 (hv1.set v') (fun k e => ?_) ?_ ?_, ⟨⟨v', hv1.set v', by rw [hfil]; exact own_set ho (fun e => by have := h3' O e; omega), h3'⟩, h.bel.trans hbel, ?_, hb _ _ _ h.b1 (by omega), hb _ _ _ h.b2 (by omega), hb _ _ _ h.b3 (by omega), hb _ _ _ h.b4 (by omega), hb _ _ _ h.b5 (by omega)⟩⟩
  · have := (own_lt ho k e).1
    simpa [World.setCell] using this
  · rcases hat with e | e
    · exact .inl e
    · exact .inr ⟨_, e, by simp⟩
  · intro k hk hkO hkv
    have e1 : (w1.setCell ⟨O, 0, none⟩ v').heap[k]? = w1.heap[k]? := Below.heap_setCell _ _ _ k hkO
    rw [e1, hg.block k (by simp; omega) (fun e => hkv e.symm)]
    exact Below.heap_alloc W tmp k hk
  · intro y hy
    rw [List.mem_append, List.mem_singleton] at hy
    rcases hy with hy | rfl
    · exact h.lt y hy
    · exact hlt
end Go.Proofs.YthcngkcfopaigaaGreat

namespace Go.Proofs.YthcngkcfopaigaaGreat
open Go.RowKit Go.Shelf
attribute [local go_sem] Oper.semAt_some
theorem kfirst_mul (r : RuleV) {s f : Int} (hs : 0 ≤ s) (hf : 0 ≤ f) (hf2 : f ≤ 158310720) (hi : 1 ≤ r.interval) : kfirst r s f * r.interval ≤ 120000 := by
  unfold kfirst
  split
  · simp
  · have hp := plong_pos r
    have hL : r.interval ≤ plong r * r.interval := by
      have := Int.mul_le_mul_of_nonneg_right hp.1 (show 0 ≤ r.interval by omega)
      omega
    generalize plong r * r.interval = L at *
    have h1 : (f / 1440 - s) / L * L ≤ f / 1440 - s := Int.ediv_mul_le _ (by omega)
    by_cases h0 : (f / 1440 - s) / L - 1 ≤ 0
    · rw [show max ((f / 1440 - s) / L - 1) 0 = 0 by omega]; simp
    · have e : max ((f / 1440 - s) / L - 1) 0 = (f / 1440 - s) / L - 1 := by omega
      rw [e]
      have h2 : ((f / 1440 - s) / L - 1) * r.interval ≤ ((f / 1440 - s) / L - 1) * L := Int.mul_le_mul_of_nonneg_left hL (by omega)
      have h3 : ((f / 1440 - s) / L - 1) * L ≤ (f / 1440 - s) / L * L := Int.mul_le_mul_of_nonneg_right (by omega) (by omega)
      omega
theorem hand_length (r : RuleV) (s mi k0 : Int) : (hand r s mi k0).length ≤ 109938 := by
  have h := whole_length r s mi k0
  have h2 := (cut_sub (r := r) (l := whole r s mi k0)).length_le
  rw [← hand_whole] at h2; omega
def BtPost (w : World) (r : RuleV) (st f t : Int) (e : Ending) (w' : World) : Prop := ∃ v, e = .returned (.tuple #[v, .bool true]) ∧ Own w' w.heap.size 2 v (betw r st f t) ∧ Below w.heap.size w w'
set_option maxRecDepth 100000 in
set_option maxHeartbeats 8000000 in
theorem between_yes (w : World) (r : RuleV) (a1 : Option Addr) (c1 : Nat) (a2 : Option Addr) (c2 : Nat) (a3 : Option Addr) (c3 : Nat) (a4 : Option Addr) (c4 : Nat) (st f t most : Int)
    (hr : RuleAt w r a1 a2 a3 a4) (hm : rmay r = true) (h0 : 0 ≤ st) (h1 : st < 158310720) (hft : f < t) (hst : st < t) (hmost : ((betw r st f t).length : Int) ≤ most) :
    Calls Tryz.prog 51 #[.agg (ruleC r a1 c1 a2 c2 a3 c3 a4 c4), .int .i64 st, .int .i64 f, .int .i64 t, .int .i64 most] w (BtPost w r st f t) := by
  obtain ⟨m1, m2, m3, m4, m5, m6, m7, m8, m9, m10, m11, m12, m13⟩ := (rmay_iff r).1 hm
  have hct : 0 < r.count → ¬ 0 ≤ r.till := by
    have := (rends_iff r).1 m5
    omega
  have HCT := Hid.mk hct
  have HW := Hid.mk (fun w' (hb : Below w.heap.size w w') => walk_yes w' r a1 c1 a2 c2 a3 c3 a4 c4 st (hr.below hb) hm h0 h1)
  have HM := Hid.mk hm
  have HMO := Hid.mk hmost
  have HR := Hid.mk hr
  have HKB := Hid.mk (kfirst_bd r (s := st / 1440) (f := fclip f) (by omega) (by unfold fclip; omega) (by unfold fclip; omega) m3)
  have HKM := Hid.mk (kfirst_mul r (s := st / 1440) (f := fclip f) (by omega) (by unfold fclip; omega) (by unfold fclip; omega) m3)
  have HHB := Hid.mk (hand_betw (f := f) (t := t) hm h0 h1 m3)
  have dft : decide (t ≤ f) = false := decide_eq_false (by omega)
  have dst : decide (t ≤ st) = false := decide_eq_false (by omega)
  clear hct hm hmost hr m5 m6 m7 m8 m9 m10 m11
  have hmf : ∀ (fn : Fn) (first cap : Array Value) (w : World), (Instr.makeFunc fn first cap).run Tryz.prog w = .ok (.func fn first cap) w := fun _ _ _ _ => rfl
  have hfc : (f < 0 ∧ fclip f = 0) ∨ (f = 0 ∧ fclip f = 0) ∨ (0 < f ∧ f < 158310720 ∧ fclip f = f) ∨ (f = 158310720 ∧ fclip f = 158310720) ∨ (158310720 < f ∧ fclip f = 158310720) := by unfold fclip; omega
  have HFF := Hid.mk (fun w' p (hw : WkAt w' p r a1 c1 a2 c2 a3 c3 a4 c4 (st / 1440) (st % 1440)) => kfirst_c w' p r a1 c1 a2 c2 a3 c3 a4 c4 (st / 1440) (st % 1440) (fclip f) hw (by omega) (by omega) (by omega) (by omega) (by omega) (by omega) (by unfold fclip; omega) (by unfold fclip; omega))
  refine (callsIn_wide (n := 5)).1 ?_
  refine callsIn_of_wp_marks Tryz.func51 rfl trivial ?_ rfl
  simp only [Tryz.ntmps51, List.size_toArray, List.length_cons, List.length_nil, Nat.reduceAdd, Nat.reduceSub, Array.replicate_succ, Array.replicate_zero, List.push_toArray, List.append_toArray, List.nil_append, List.cons_append]
  have HFC := Hid.mk hfc
  clear hfc
  gi_upto_region 5 with (first | (refine ⟨trivial, ?_⟩; gi_at_call 73; refine (callsIn_wide.2 (HW.out _ ?_)).mono ?_; exact blw; rintro e w1 ⟨p, rfl, hb1, hp1, hblk⟩; obtain ⟨x1, x2, x3, x4, x5⟩ := boxes6 hb1; have y1 := x1.cell; have y2 := x2.cell; have y3 := x3.cell; have z1 := x1.lt; have z2 := x2.lt; have z3 := x3.lt; have z4 := x4.lt; have hz1 := x5.lt; have hB1 := bl_step (a := w) blw hb1))
  gi_cut [40] from 16 (fun g wr => ∃ bw bk : Nat, g = .func (.func 102) #[] #[.pointer (some ⟨bw, 0, none⟩), .pointer (some ⟨bk, 0, none⟩)] ∧ wr.cell? ⟨bw, 0, none⟩ = some (.pointer (some ⟨p, 0, none⟩)) ∧ wr.cell? ⟨bk, 0, none⟩ = some (.int .i64 (kfirst r (st / 1440) (fclip f))) ∧
    ItInv w w1.heap.size 29 p (walkC r a1 c1 a2 c2 a3 c3 a4 c4 (st / 1440) (st % 1440)) 135 wr ∧ BtI w w1.heap.size f t most [] wr)
  case first =>
    have hin : ItInv w w1.heap.size 29 p (walkC r a1 c1 a2 c2 a3 c3 a4 c4 (st / 1440) (st % 1440)) 135 (w1.alloc (.cells #[.slice none 0 0] 29)) := by
      refine ⟨bl_alloc hB1 _, ⟨_, Boxed.new _ _ _, fun k e => by simp [Value.ownBlock] at e⟩, blk_alloc hblk _, ?_⟩
      rintro (e | ⟨v, hv, hk⟩)
      · have := blk_lt hblk; omega
      · obtain rfl := boxed_inj (Boxed.new w1 29 (.slice none 0 0)) hv
        simp [Value.ownBlock] at hk
    have hbt : BtI w w1.heap.size f t most [] (w1.alloc (.cells #[.slice none 0 0] 29)) :=
      ⟨⟨_, Boxed.new _ _ _, own_nil _ _ _, fun k e => by simp [Value.ownBlock] at e⟩, bl_alloc hB1 _, by simp, x1.alloc _, x2.alloc _, x3.alloc _, x4.alloc _, x5.alloc _⟩
    have HIN := Hid.mk hin
    have HBT := Hid.mk hbt
    have hfc := HFC.out
    clear hin hbt HFC
    rcases hfc with ⟨g1, hfe⟩ | ⟨rfl, hfe⟩ | ⟨g1, g2, hfe⟩ | ⟨rfl, hfe⟩ | ⟨g1, hfe⟩
    all_goals
      have HFE := Hid.mk hfe
      rw [hfe] at HFF
      clear hfe
      gi_wp2_with (fail)
      refine ⟨trivial, ?_⟩
      gi_at_call 75
      refine (callsIn_wide.2 (HFF.out _ p ⟨fun i v hv => blk_cell (blk_alloc hblk _) i hv, HR.out.below (bl_alloc hB1 _)⟩)).mono ?_
      rintro e w2 ⟨rfl, hb2⟩
      gi_wp2_with (refine ⟨trivial, ?_⟩; gi_at_call 74; refine (callsIn_wide.2 (wfrom_c _ _ _)).mono ?_; rintro e w3 ⟨rfl, rfl⟩)
      gi_meet
      case rel =>
        rw [HFE.out]
        refine ⟨w2.heap.size, w2.heap.size + 1, rfl, ?_, ?_, HIN.out.step ?_, ?_⟩
        · exact blk_cell (blk_alloc (blk_new w2 _) _) 0 rfl
        · exact blk_cell (blk_new2 w2 _ _) 0 rfl
        · exact bl_alloc (bl_alloc hb2 _) _
        · exact btI_own (Nat.le_refl _) _ _ _ none HBT.out (grown_of_below (bl_alloc (bl_alloc hb2 _) _)) (fun r e => by cases e)
  obtain ⟨bw, bk, rfl, hbw, hbk, hin, hbt⟩ := hcut
  have hle := hin.below.size
  have hO : w.heap.size + 1 + 1 + 1 + 1 + 1 < w1.heap.size := hz1
  have HBT := Hid.mk hbt
  have HIN := Hid.mk hin
  have HBK := Hid.mk hbk
  have HBW := Hid.mk hbw
  have HNL := Hid.mk (hand_length r (st / 1440) (st % 1440) (kfirst r (st / 1440) (fclip f)))
  clear hbt hin hbk hbw hblk hB1 y1 y2 y3 x1 x2 x3 x4 x5 z1 z2 z3 z4 hz1 hb1 HW HFF HFC hmf
  gi_wp2
  refine wpIn_rangeFunc_ownG rfl (by omega) (gf := 102) (lb := #[.pointer (some ⟨bw, 0, none⟩), .pointer (some ⟨bk, 0, none⟩)]) rfl trivial (enters_of Tryz.func102 (by kernel_rfl) rfl)
    (from_stops w wc w1.heap.size 29 _ p bw bk r a1 c1 a2 c2 a3 c3 a4 c4 (st / 1440) (st % 1440) (kfirst r (st / 1440) (fclip f)) HR.out (by omega) (by omega) (by omega) (by omega) (by omega) (by omega) (by omega) (by omega) (by omega) (by omega) (fun hc => by have := HCT.out hc; omega) HKB.out.1 HKM.out HIN.out HBW.out HBK.out)
    kpB_t (kpB_b hle) (Below.refl _ _) (fun _ => rfl)
    (BtI w w1.heap.size f t most) (BtX w f t most) (btI_own hle) (fun c => btX_own hle c) HBT.out
    (fun x => { tmps := #[.agg (ruleC r a1 c1 a2 c2 a3 c3 a4 c4), .int .i64 st, .int .i64 f, .int .i64 t, .int .i64 most, .pointer (some ⟨w.heap.size, 0, none⟩), undef, .pointer (some ⟨w.heap.size + 1, 0, none⟩), .pointer (some ⟨w.heap.size + 1 + 1, 0, none⟩), .pointer (some ⟨w.heap.size + 1 + 1 + 1, 0, none⟩), .pointer (some ⟨w.heap.size + 1 + 1 + 1 + 1, 0, none⟩), .pointer (some ⟨w.heap.size + 1 + 1 + 1 + 1 + 1, 0, none⟩), .pointer (some ⟨p, 0, none⟩), .bool true, .pointer (some ⟨w1.heap.size, 0, none⟩), .int .i64 x, u16, u17, u18, u19, u20, u21, u22, u23, u24, u25, u26, u27, u28, u29, u30, u31, u32, u33, u34, u35, u36, u37, u38, u39, .func (.func 102) #[] #[.pointer (some ⟨bw, 0, none⟩), .pointer (some ⟨bk, 0, none⟩)], .int .i64 x, u42, u43, u44, u45, u46, u47, u48, u49, u50, u51, u52, u53, u54, u55, u56, u57, u58, u59, u60], defers := [] }) ?assign ?body ?done ?stop
  case assign =>
    intro l x W K hK
    gi_wp2
    exact hK
  case body =>
    intro l pre x W hi hlen
    obtain ⟨v, hv, hown, hrow⟩ := hi.row
    have HROW := Hid.mk hrow
    have HI := Hid.mk hi
    have hpl : (pre.filter (fun x => decide (f ≤ x))).length ≤ pre.length := List.length_filter_le _ _
    have hnl := HNL.out
    obtain ⟨a, cap, rfl, _⟩ := own_ints hown
    have HOWN := Hid.mk hown
    have HV := Hid.mk hv
    have q0 := hv.cell
    have q1 := hi.b1.cell
    have q2 := hi.b2.cell
    have q3 := hi.b3.cell
    have q4 := hi.b4.cell
    have q5 := hi.b5.cell
    have g4 := hi.b4.frozen
    have g5 := hi.b5.frozen
    clear hrow hi hown hv
    generalize hpre : pre.filter (fun x => decide (f ≤ x)) = ys at *
    have HPRE := Hid.mk hpre
    clear hpre
    by_cases ht : t ≤ x
    · have dt := decide_eq_true ht
      gi_wp2
      refine ⟨((KeepsOthers.setCell _ _ _).trans (KeepsOthers.setCell _ _ _)).from _, rfl, pre, x, rfl, HI.out.lt, ?_, .inl ⟨ht, ⟨.slice a ys.length cap, ?_, ?_⟩, ?_⟩⟩
      · exact (HI.out.bel.setCell (by show w.heap.size ≤ w.heap.size + 1 + 1 + 1 + 1; omega) _).setCell (by show w.heap.size ≤ w.heap.size + 1 + 1 + 1 + 1 + 1; omega) _
      · exact (HI.out.b4.set _).other (by omega) _
      · rw [HPRE.out]
        exact own_set (own_set HOWN.out (fun e => by have := HROW.out _ e; simp at this; omega)) (fun e => by have := HROW.out _ e; simp at this; omega)
      · exact (HI.out.b5.other (by omega) _).set _
    · have dt := decide_eq_false ht
      by_cases hf : x < f
      · have df := decide_eq_true hf
        gi_wp2
        have hfil : (pre ++ [x]).filter (fun x => decide (f ≤ x)) = ys := by rw [List.filter_append, HPRE.out]; simp; omega
        exact ⟨KeepsFrom.refl _ _, kpB_same, ⟨⟨_, HV.out, by rw [hfil]; exact HOWN.out, HROW.out⟩, HI.out.bel, fun y hy => by (rw [List.mem_append, List.mem_singleton] at hy; rcases hy with hy | rfl; exact HI.out.lt y hy; omega), HI.out.b1, HI.out.b2, HI.out.b3, HI.out.b4, HI.out.b5⟩⟩
      · have df := decide_eq_false hf
        by_cases hn : most ≤ (ys.length : Int)
        · have dn := decide_eq_true hn
          gi_wp2
          exact ⟨((KeepsOthers.setCell _ _ _).trans (KeepsOthers.setCell _ _ _)).from _, rfl, pre, x, rfl, HI.out.lt, (HI.out.bel.setCell (by show w.heap.size ≤ w.heap.size + 1 + 1 + 1 + 1; omega) _).setCell (by show w.heap.size ≤ w.heap.size + 1 + 1 + 1 + 1 + 1; omega) _, .inr ⟨by omega, by omega, by rw [HPRE.out]; exact hn⟩⟩
        · have dn := decide_eq_false hn
          gi_wp2_with (gi_at_builtin; refine own_append_in info_i64 Tryz.underlying29 rfl _ _ rfl w.heap.size _ ys x W.heap.size rfl (HOWN.out.alloc _) rfl ?_ (by omega) (by have := HI.out.bel.size; simp; omega) ?_)
          · intro v' w4 ho4 hg4 hat4
            have hnx := btI_next HI.out hO HV.out HROW.out (by omega) (by omega) (by rw [HPRE.out]; exact ho4) hg4 (by rw [World.size_alloc]; exact hat4) (by rw [HPRE.out]; exact HOWN.out)
            obtain ⟨hv1, hko, hkp, hbi⟩ := hnx
            obtain ⟨a', cap', rfl, _⟩ := own_ints ho4
            have hc1 := hv1.cell
            have hf1 := hv1.frozen
            rw [show (ys ++ [x]).length = ys.length + 1 by simp] at hko hkp hbi
            have HKO := Hid.mk hko
            have HKP := Hid.mk hkp
            have HBI := Hid.mk hbi
            clear hko hkp hbi ho4 hg4 hat4
            gi_wp2
            exact ⟨HKO.out.from _, HKP.out, HBI.out⟩
  case done =>
    intro D ys W hD hys hi hK
    obtain ⟨v, hv, hown, hrow⟩ := hi.row
    have HROW := Hid.mk hrow
    have HI := Hid.mk hi
    obtain ⟨a, cap, rfl, _⟩ := own_ints hown
    have hend : ys.filter (fun x => decide (f ≤ x)) = betw r st f t := by rw [filter_all hi.lt, hys]; exact HHB.out
    rw [hend] at hown hv
    have HOWN := Hid.mk hown
    have q0 := hv.cell
    have q4 := hi.b4.cell
    have q5 := hi.b5.cell
    have g4 := hi.b4.frozen
    have g5 := hi.b5.frozen
    have hv0 := hv.lt
    rw [hend] at HROW
    clear hrow hi hown hv hend hys
    gi_wp2
    have hK' := ((KeepsOthers.setCell W ⟨w.heap.size + 1 + 1 + 1 + 1, 0, none⟩ (.slice a (betw r st f t).length cap)).trans (KeepsOthers.setCell _ ⟨w.heap.size + 1 + 1 + 1 + 1 + 1, 0, none⟩ (.bool true))).same D _ hK rfl
    refine ⟨by simp, .inl ⟨_, _, rfl, run_takeDeferred hK', ?_⟩⟩
    have hc4 := (box_keep ((HI.out.b4.set (.slice a (betw r st f t).length cap)).other (B' := w.heap.size + 1 + 1 + 1 + 1 + 1) (by omega) (.bool true)) (grownBy_putObj' _ D (.deferred none)) (fun r e => by cases e; exact ⟨_, hK', rfl⟩)).cell
    have hc5 := (box_keep ((HI.out.b5.other (B' := w.heap.size + 1 + 1 + 1 + 1) (by omega) (.slice a (betw r st f t).length cap)).set (.bool true)) (grownBy_putObj' _ D (.deferred none)) (fun r e => by cases e; exact ⟨_, hK', rfl⟩)).cell
    refine ⟨.tuple #[.slice a (betw r st f t).length cap, .bool true], ?_, _, rfl, ?_, ?_⟩
    · simp [results, Tryz.results51, go_sem, hc4, hc5]
    · exact own_put (own_set (own_set HOWN.out (fun e => by have := HROW.out _ e; simp at this; omega)) (fun e => by have := HROW.out _ e; simp at this; omega)) hK' rfl
    · exact ((HI.out.bel.setCell (by show w.heap.size ≤ w.heap.size + 1 + 1 + 1 + 1; omega) _).setCell (by show w.heap.size ≤ w.heap.size + 1 + 1 + 1 + 1 + 1; omega) _).trans (belowK_b (w := wc) hle _ D _ _ hD hK' rfl rfl)
  case stop =>
    rintro D c pre W hD hpre ⟨rfl, q, x, rfl, hq, hB, h⟩ hK
    rcases h with ⟨htx, ⟨v, hv, hown⟩, hv5⟩ | ⟨hfx, hxt, hmq⟩
    · have hend : q.filter (fun x => decide (f ≤ x)) = betw r st f t := by rw [filter_stop (hand_sorted _ _ _ _) hpre hq htx]; exact HHB.out
      rw [hend] at hown
      gi_wp2
      refine ⟨by simp, .inl ⟨_, _, rfl, run_takeDeferred hK, ?_⟩⟩
      have hc4 := (box_keep hv (grownBy_putObj' _ D (.deferred none)) (fun r e => by cases e; exact ⟨_, hK, rfl⟩)).cell
      have hc5 := (box_keep hv5 (grownBy_putObj' _ D (.deferred none)) (fun r e => by cases e; exact ⟨_, hK, rfl⟩)).cell
      refine ⟨.tuple #[v, .bool true], ?_, _, rfl, own_put hown hK rfl, hB.trans (belowK_b (w := wc) hle _ D _ _ hD hK rfl rfl)⟩
      simp [results, Tryz.results51, go_sem, hc4, hc5]
    · exfalso
      have h1 := (List.IsPrefix.sublist hpre).filter (fun x => decide (f ≤ x) && decide (x < t))
      rw [HHB.out] at h1
      have h2 := h1.length_le
      have h3 : (q ++ [x]).filter (fun x => decide (f ≤ x) && decide (x < t)) = q.filter (fun x => decide (f ≤ x)) ++ [x] := by
        rw [List.filter_append, ← filter_all hq]
        simp [hfx, hxt]
      rw [h3, List.length_append, List.length_singleton] at h2
      have := HMO.out
      omega
end Go.Proofs.YthcngkcfopaigaaGreat

namespace Go.Proofs.YthcngkcfopaigaaGreat
open Go.RowKit Go.Shelf
set_option maxRecDepth 100000 in
set_option maxHeartbeats 8000000 in
theorem between_no (w : World) (r : RuleV) (a1 : Option Addr) (c1 : Nat) (a2 : Option Addr) (c2 : Nat) (a3 : Option Addr) (c3 : Nat) (a4 : Option Addr) (c4 : Nat) (st f t most : Int)
    (hr : RuleAt w r a1 a2 a3 a4) (h : ¬ (rmay r = true ∧ 0 ≤ st ∧ st < 158310720 ∧ f < t ∧ st < t)) :
    Calls Tryz.prog 51 #[.agg (ruleC r a1 c1 a2 c2 a3 c3 a4 c4), .int .i64 st, .int .i64 f, .int .i64 t, .int .i64 most] w (BtPost w r st f t) := by
  have hnil : betw r st f t = [] := by
    rw [List.eq_nil_iff_forall_not_mem]
    intro x hx
    obtain ⟨h1, h2, h3⟩ := betw_mem.1 hx
    have h4 := allTimes_mem h1
    unfold allTimes at h1
    split at h1
    · rename_i hh
      exact h ⟨hh.1, hh.2.1, hh.2.2, by omega, by omega⟩
    · simp at h1
  have HN := Hid.mk hnil
  clear hnil
  by_cases hk : rmay r = true ∧ 0 ≤ st ∧ st < 158310720
  · have HW := Hid.mk (fun w' (hb : Below w.heap.size w w') => walk_yes w' r a1 c1 a2 c2 a3 c3 a4 c4 st (hr.below hb) hk.1 hk.2.1 hk.2.2)
    have hc : t ≤ f ∨ (f < t ∧ t ≤ st) := by
      by_cases h1 : t ≤ f
      · exact .inl h1
      · exact .inr ⟨by omega, by by_cases h2 : t ≤ st; exact h2; exact absurd ⟨hk.1, hk.2.1, hk.2.2, by omega, by omega⟩ h⟩
    clear h hk hr
    rcases hc with h1 | ⟨h1, h2⟩
    all_goals
      go_enter Tryz.func51, Tryz.ntmps51
      try dsimp only [List.append]
      go_wp2_with (go_at_call 73; refine (HW.out _ ?_).mono ?_; exact blw; rintro e w1 ⟨p, rfl, hb1, hp1, hblk⟩; obtain ⟨x1, x2, x3, x4, x5⟩ := boxes6 hb1; have y1 := x1.cell; have y2 := x2.cell; have y4 := x4.cell; have y5 := x5.cell; have z1 := x1.lt; have z2 := x2.lt; have z4 := x4.lt; have z5 := x5.lt; have f4 := x4.frozen; have f5 := x5.frozen; have hB1 := bl_step (a := w) blw hb1)
      have hc4 := ((x4.set (.slice none 0 0)).other (B' := w.heap.size + 1 + 1 + 1 + 1 + 1) (by omega) (.bool true)).cell
      have hc5 := ((x5.other (B' := w.heap.size + 1 + 1 + 1 + 1) (by omega) (.slice none 0 0)).set (.bool true)).cell
      refine bodyPost_ret (v := .tuple #[.slice none 0 0, .bool true]) ?_ rfl ⟨_, rfl, ?_, ?_⟩
      · simp [results, Tryz.results51, go_sem, hc4, hc5]
      · rw [HN.out]; exact own_nil _ _ _
      · exact (hB1.setCell (by show w.heap.size ≤ w.heap.size + 1 + 1 + 1 + 1; omega) _).setCell (by show w.heap.size ≤ w.heap.size + 1 + 1 + 1 + 1 + 1; omega) _
  · have HW := Hid.mk (fun w' (hb : Below w.heap.size w w') => walk_no w' r a1 c1 a2 c2 a3 c3 a4 c4 st (hr.below hb) hk)
    clear h hk hr
    go_enter Tryz.func51, Tryz.ntmps51
    try dsimp only [List.append]
    go_wp2_with (go_at_call 73; refine (HW.out _ ?_).mono ?_; exact blw; rintro e w1 ⟨rfl, hb1⟩; obtain ⟨x1, x2, x3, x4, x5⟩ := boxes6 hb1; have y1 := x1.cell; have y2 := x2.cell; have y4 := x4.cell; have y5 := x5.cell; have z1 := x1.lt; have z2 := x2.lt; have z4 := x4.lt; have z5 := x5.lt; have f4 := x4.frozen; have f5 := x5.frozen; have hB1 := bl_step (a := w) blw hb1)
    have hc4 := ((x4.set (.slice none 0 0)).other (B' := w.heap.size + 1 + 1 + 1 + 1 + 1) (by omega) (.bool true)).cell
    have hc5 := ((x5.other (B' := w.heap.size + 1 + 1 + 1 + 1) (by omega) (.slice none 0 0)).set (.bool true)).cell
    refine bodyPost_ret (v := .tuple #[.slice none 0 0, .bool true]) ?_ rfl ⟨_, rfl, ?_, ?_⟩
    · simp [results, Tryz.results51, go_sem, hc4, hc5]
    · rw [HN.out]; exact own_nil _ _ _
    · exact (hB1.setCell (by show w.heap.size ≤ w.heap.size + 1 + 1 + 1 + 1; omega) _).setCell (by show w.heap.size ≤ w.heap.size + 1 + 1 + 1 + 1 + 1; omega) _
theorem between_c (w : World) (r : RuleV) (a1 : Option Addr) (c1 : Nat) (a2 : Option Addr) (c2 : Nat) (a3 : Option Addr) (c3 : Nat) (a4 : Option Addr) (c4 : Nat) (st f t most : Int)
    (hr : RuleAt w r a1 a2 a3 a4) (hmost : ((betw r st f t).length : Int) ≤ most) :
    Calls Tryz.prog 51 #[.agg (ruleC r a1 c1 a2 c2 a3 c3 a4 c4), .int .i64 st, .int .i64 f, .int .i64 t, .int .i64 most] w (BtPost w r st f t) := by
  by_cases h : rmay r = true ∧ 0 ≤ st ∧ st < 158310720 ∧ f < t ∧ st < t
  · exact between_yes w r a1 c1 a2 c2 a3 c3 a4 c4 st f t most hr h.1 h.2.1 h.2.2.1 h.2.2.2.1 h.2.2.2.2 hmost
  · exact between_no w r a1 c1 a2 c2 a3 c3 a4 c4 st f t most hr h
def hasT (r : RuleV) (st x : Int) : Bool := decide (x ∈ allTimes r st)
set_option maxRecDepth 100000 in
set_option maxHeartbeats 8000000 in
theorem hasT_c (w : World) (r : RuleV) (a1 : Option Addr) (c1 : Nat) (a2 : Option Addr) (c2 : Nat) (a3 : Option Addr) (c3 : Nat) (a4 : Option Addr) (c4 : Nat) (st x : Int) (hr : RuleAt w r a1 a2 a3 a4) :
    Calls Tryz.prog 40 #[.agg (ruleC r a1 c1 a2 c2 a3 c3 a4 c4), .int .i64 st, .int .i64 x] w fun e w' => e = .returned (.bool (hasT r st x)) ∧ Below w.heap.size w w' := by
  have hc : x < 0 ∨ (0 ≤ x ∧ 158310720 ≤ x) ∨ (0 ≤ x ∧ x < 158310720) := by omega
  have HB := Hid.mk (fun w' (hb : Below w.heap.size w w') => between_c w' r a1 c1 a2 c2 a3 c3 a4 c4 st x (x + 1) 1 (hr.below hb) (by rw [betw_one]; split <;> simp))
  have HO := Hid.mk (betw_one r st x)
  have HA : Hid (hasT r st x = true → 0 ≤ x ∧ x < 158310720) := Hid.mk (fun h => by have := allTimes_mem (of_decide_eq_true h); exact ⟨this.1, this.2.1⟩)
  have HV := Hid.mk (show hasT r st x = decide (x ∈ allTimes r st) from rfl)
  clear hr
  generalize hasT r st x = v at *
  rcases hc with h | ⟨h, h2⟩ | ⟨h, h2⟩
  · have HF : Hid (v = false) := bnot_true fun e => by have := HA.out e; omega
    go_enter Tryz.func40, Tryz.ntmps40
    try dsimp only [List.append]
    go_wp2_with fail
    go_ret
    exact ⟨ret_bool HF.out.symm, blw⟩
  · have HF : Hid (v = false) := bnot_true fun e => by have := HA.out e; omega
    go_enter Tryz.func40, Tryz.ntmps40
    try dsimp only [List.append]
    go_wp2_with fail
    go_ret
    exact ⟨ret_bool HF.out.symm, blw⟩
  · unfold BtPost at HB
    have hl : ((((betw r st x (x + 1)).length : Nat) : Int) == 1) = v := by
      rw [HV.out, HO.out]; split <;> simp [*]
    generalize betw r st x (x + 1) = ys at *
    clear HO HA HV
    have d1 : decide (x < 0) = false := decide_eq_false (by omega)
    have d2 : decide (158310720 ≤ x) = false := decide_eq_false (by omega)
    cases v
    all_goals
      go_enter Tryz.func40, Tryz.ntmps40
      try dsimp only [List.append]
      go_wp2_with (go_at_call 51; refine (HB.out _ ?_).mono ?_; exact blw; rintro e w1 ⟨u, rfl, ho, hb1⟩; obtain ⟨a, cap, rfl, _⟩ := own_ints ho)
      go_ret
      exact ⟨rfl, bl_step (a := w) blw hb1⟩
end Go.Proofs.YthcngkcfopaigaaGreat

namespace Go.Proofs.YthcngkcfopaigaaGreat
open Go.RowKit
theorem stamp_c (n : Int) (w : World) : Calls Tryz.prog 20 #[.int .i64 n] w fun e w' => e = .returned (.bool (stampB n)) ∧ w = w' := by
  have hc : n < 0 ∨ (0 ≤ n ∧ n < 158310720) ∨ (0 ≤ n ∧ 158310720 ≤ n) := by omega
  rcases hc with h | ⟨h, h2⟩ | ⟨h, h2⟩
  · have HF : Hid (stampB n = false) := by unfold Hid stampB; simp; omega
    generalize stampB n = v at *
    have d1 : decide (0 ≤ n) = false := decide_eq_false (by omega)
    go_enter Tryz.func20, Tryz.ntmps20
    go_wp2
    go_ret
    exact ⟨ret_bool HF.out.symm, rfl⟩
  · have HF : Hid (stampB n = true) := by unfold Hid stampB; simp; omega
    generalize stampB n = v at *
    have d1 : decide (0 ≤ n) = true := decide_eq_true (by omega)
    have d2 : decide (n < 158310720) = true := decide_eq_true (by omega)
    go_enter Tryz.func20, Tryz.ntmps20
    go_wp2
    go_ret
    exact ⟨ret_bool HF.out.symm, rfl⟩
  · have HF : Hid (stampB n = false) := by unfold Hid stampB; simp; omega
    generalize stampB n = v at *
    have d1 : decide (0 ≤ n) = true := decide_eq_true (by omega)
    have d2 : decide (n < 158310720) = false := decide_eq_false (by omega)
    go_enter Tryz.func20, Tryz.ntmps20
    go_wp2
    go_ret
    exact ⟨ret_bool HF.out.symm, rfl⟩
set_option maxHeartbeats 2000000 in
theorem erow_c (a : Option Addr) (cap : Nat) (l : List Int) (w : World) (hr : Ints w a l) (hbig : l.length ≤ 1000000000000000000) :
    Calls Tryz.prog 23 #[.slice a l.length cap] w fun e w' => e = .returned (.bool (erow l)) ∧ w = w' := by
  go_enter Tryz.func23, Tryz.ntmps23
  go_wp2
  go_loop [7] (fun i => ∃ k : Nat, k ≤ l.length ∧ i = .int .i64 k ∧ (∀ j, j < k → erowAt l j = true)) (fun i => l.length - (intOf i).toNat)
  case atStart => exact ⟨0, by omega, rfl, fun j h => by omega⟩
  case round =>
    obtain ⟨k, k1, rfl, hok⟩ := hrel
    by_cases hlt : k < l.length
    · obtain ⟨b, off, rfl, hcells⟩ := hr.ig hlt
      have c0 := hcells k hlt
      have HS := Hid.mk (fun w => stamp_c (ig l k) w)
      have HOK := Hid.mk hok
      have HNO : Hid (erowAt l k = false → erow l = false) := Hid.mk fun h => by unfold erow; rw [upto_false hlt h]; rfl
      have HEA := Hid.mk (show erowAt l k = (stampB (ig l k) && rup l k) from rfl)
      have HRU := Hid.mk (show rup l k = (decide (k = 0) || decide (ig l (k - 1) < ig l k)) from rfl)
      have HR := Hid.mk hr
      have c1 := hcells (k - 1) (by omega)
      clear hok hcells hr
      generalize ig l (k - 1) = P at *
      generalize ig l k = X at *
      generalize hea : erowAt l k = ea at *
      have HEQ := Hid.mk hea
      clear hea
      cases hs : stampB X with
      | false =>
        have HF := Hid.mk (HNO.out (by rw [HEA.out, hs]; rfl))
        have HS2 := Hid.mk (fun w => hs ▸ HS.out w)
        clear hs
        go_wp2_with (go_at_call 20; (with_reducible refine (HS2.out _).mono ?_); rintro e w' ⟨rfl, rfl⟩)
        go_ret
        exact ⟨ret_bool HF.out.symm, rfl⟩
      | true =>
        have HS2 := Hid.mk (fun w => hs ▸ HS.out w)
        have HEB : Hid (ea = rup l k) := Hid.mk (by rw [HEA.out, hs]; rfl)
        clear hs
        by_cases h0 : k = 0
        · subst h0
          have c0' : w.cell? ⟨b, off, none⟩ = some (.int .i64 X) := by simpa using c0
          go_wp2_with (go_at_call 20; (with_reducible refine (HS2.out _).mono ?_); rintro e w' ⟨rfl, rfl⟩)
          go_round
          case rel => exact ⟨1, by omega, by go_num, fun j h => by (obtain rfl : j = 0 := by omega); rw [HEQ.out, HEB.out]; rfl⟩
          case measure => simp [intOf]; omega
        · have e1 : decide (0 < k) = true := decide_eq_true (by omega)
          have e2 : decide (0 < (k : Int)) = true := decide_eq_true (by omega)
          by_cases hp : X ≤ P
          · have d1 := decide_eq_true hp
            have HF := Hid.mk (HNO.out (by rw [HEB.out, HRU.out]; simp; omega))
            go_wp2_with (go_at_call 20; (with_reducible refine (HS2.out _).mono ?_); rintro e w' ⟨rfl, rfl⟩)
            go_ret
            exact ⟨ret_bool HF.out.symm, rfl⟩
          · have d1 := decide_eq_false hp
            have HT : Hid (ea = true) := Hid.mk (by rw [HEB.out, HRU.out]; simp; omega)
            go_wp2_with (go_at_call 20; (with_reducible refine (HS2.out _).mono ?_); rintro e w' ⟨rfl, rfl⟩)
            go_round
            case rel => exact ⟨k + 1, by omega, by go_num, fun j h => by (by_cases e : j = k; subst e; rw [HEQ.out]; exact HT.out; exact HOK.out j (by omega))⟩
            case measure => simp [intOf]; omega
    · have HOK := Hid.mk hok
      clear hok
      have HV : Hid (erow l = decide (l.length ≤ 50)) := Hid.mk (by unfold erow; rw [upto_true fun j hj => HOK.out j (by omega)]; rfl)
      by_cases h5 : l.length ≤ 50
      · have d5 := decide_eq_true h5
        have d6 : decide ((l.length : Int) ≤ 50) = true := decide_eq_true (by omega)
        have HF : Hid (erow l = true) := Hid.mk (by rw [HV.out]; exact d5)
        go_wp2
        go_ret
        exact ⟨ret_bool HF.out.symm, rfl⟩
      · have d5 := decide_eq_false h5
        have d6 : decide ((l.length : Int) ≤ 50) = false := decide_eq_false (by omega)
        have HF : Hid (erow l = false) := Hid.mk (by rw [HV.out]; exact d5)
        go_wp2
        go_ret
        exact ⟨ret_bool HF.out.symm, rfl⟩
end Go.Proofs.YthcngkcfopaigaaGreat
