/- What a round of a loop over a function keeps, where the body collects into a slice of its own: a variable's box and the row that it holds; all else lies. No program in sight. -/
import Derived.Test.YthcngkcfopaigaaGreatK3
import Derived.RangeFuncNested
import Derived.RangeFuncBound
import Derived.RangeFuncCalls
import Derived.RangeFuncLeaves
import Derived.RangeFuncBox
namespace Go.Proofs.YthcngkcfopaigaaGreat
open Go.RowKit
theorem room_none {F : Fence} (hd : F.depth = none) (k : Nat) : F.room k := fun d h => by rw [hd] at h; cases h
theorem yield_deep {F : Fence} (hd : F.depth = none) {m : Nat} (m' : Nat) {P : Program} {l : Nat} {args : Array Value} {W : World} {R : Ending → World → Prop} (h : YieldAt F m P l args W R) : YieldAt F m' P l args W R := by
  obtain ⟨fn, tmps, assign, body, hy, hR⟩ := h
  exact ⟨fn, tmps, assign, body, hy, hR.1, fun c cs _ => hR.2 c cs (room_none hd _)⟩
/-- the blocks that belong to the box -/
def Mine (B : Nat) (t : TypeId) (W : World) (k : Nat) : Prop := k = B ∨ ∃ v, Boxed W B t v ∧ v.ownBlock = some k
def BoxWf (B : Nat) (t : TypeId) (W : World) : Prop := ∃ v, Boxed W B t v ∧ ∀ k, v.ownBlock = some k → k < W.heap.size
def KpB (n₀ B : Nat) (t : TypeId) (W W' : World) : Prop :=
  Below n₀ W W' ∧ (BoxWf B t W → BoxWf B t W' ∧ ∀ k cur e f, W.heap[k]? = some (.cells cur e f) → ¬ Mine B t W k → W'.heap[k]? = some (.cells cur e f) ∧ ¬ Mine B t W' k)
theorem boxed_inj {W : World} {B : Nat} {t : TypeId} {v v' : Value} (h : Boxed W B t v) (h' : Boxed W B t v') : v = v' := by
  unfold Boxed at h h'; rw [h] at h'; simpa using h'
theorem kpB_t {n₀ B : Nat} {t : TypeId} {X Y Z : World} (h : KpB n₀ B t X Y) (k : KpB n₀ B t Y Z) : KpB n₀ B t X Z :=
  ⟨h.1.trans k.1, fun hb => ⟨(k.2 (h.2 hb).1).1, fun i cur e f hi hn => (k.2 (h.2 hb).1).2 i cur e f ((h.2 hb).2 i cur e f hi hn).1 ((h.2 hb).2 i cur e f hi hn).2⟩⟩
theorem boxed_put {W : World} {B : Nat} {t : TypeId} {v : Value} {l : Nat} {o o' : Obj} (hl : W.heap[l]? = some o) (ho : o.isCells = false) (h : Boxed W B t v) : Boxed (W.putObj l o') B t v := by
  unfold Boxed at h ⊢
  rw [World.putObj_heap_other]; exact h
  intro e; subst e; rw [h] at hl; cases hl; cases ho
theorem kpB_b {n₀ B : Nat} {t : TypeId} {w : World} (hn : n₀ ≤ w.heap.size) (W : World) (l : Nat) (o o' : Obj) (hl : w.heap.size ≤ l) (h : W.heap[l]? = some o) (ho : o.isCells = false) (hw : o.isWalk = false) : KpB n₀ B t W (W.putObj l o') := by
  refine ⟨belowK_b hn W l o o' hl h ho hw, fun ⟨v, hv, hk⟩ => ?_⟩
  have hv' := boxed_put (o' := o') h ho hv
  refine ⟨⟨v, hv', fun k e => by have := hk k e; have := (grownBy_putObj' W l o').size; omega⟩, fun k cur e f hc hm => ⟨?_, fun hm' => hm ?_⟩⟩
  · rw [World.putObj_heap_other]; exact hc
    intro e'; subst e'; rw [hc] at h; cases h; cases ho
  · rcases hm' with rfl | ⟨v', hv2, hk2⟩
    · exact .inl rfl
    · obtain rfl := boxed_inj hv' hv2
      exact .inr ⟨v, hv, hk2⟩
/-- what the iterator does between two rounds leaves the box alone -/
theorem boxed_below {W W' : World} {B : Nat} {t : TypeId} {v : Value} (hb : Below W.heap.size W W') (h : Boxed W B t v) : Boxed W' B t v := (hb.block B h.lt).trans h
theorem boxWf_below {W W' : World} {B : Nat} {t : TypeId} (hb : Below W.heap.size W W') (h : BoxWf B t W) : BoxWf B t W' := by
  obtain ⟨v, hv, hk⟩ := h
  exact ⟨v, boxed_below hb hv, fun k e => Nat.lt_of_lt_of_le (hk k e) hb.size⟩
theorem mine_below {W W' : World} {B : Nat} {t : TypeId} {k : Nat} (hb : Below W.heap.size W W') (hw : BoxWf B t W) (h : Mine B t W' k) : Mine B t W k := by
  obtain ⟨v, hv, _⟩ := hw
  rcases h with rfl | ⟨v', hv', hk⟩
  · exact .inl rfl
  · obtain rfl := boxed_inj (boxed_below hb hv) hv'
    exact .inr ⟨v, hv, hk⟩
theorem mine_lt {W : World} {B : Nat} {t : TypeId} {k : Nat} (hw : BoxWf B t W) (h : Mine B t W k) : k < W.heap.size := by
  obtain ⟨v, hv, hk⟩ := hw
  rcases h with rfl | ⟨v', hv', hk'⟩
  · exact hv.lt
  · obtain rfl := boxed_inj hv hv'
    exact hk k hk'
theorem grown_of_below {W W' : World} (h : Below W.heap.size W W') : W.grownBy W' none := ⟨h.os, h.tape, h.output, h.size, fun k hk _ => h.block k hk⟩
/-- what a body that collects owes at a round's end -/
theorem kpB_of {n₀ B : Nat} {t : TypeId} {W W' : World} {v v' : Value} (hb : Below n₀ W W') (hv : Boxed W B t v) (hv' : Boxed W' B t v') (hk : ∀ k, v'.ownBlock = some k → k < W'.heap.size)
    (hn : v'.ownBlock = v.ownBlock ∨ ∃ g, v'.ownBlock = some g ∧ W.heap.size ≤ g) (hs : ∀ k, k < W.heap.size → k ≠ B → v.ownBlock ≠ some k → W'.heap[k]? = W.heap[k]?) : KpB n₀ B t W W' := by
  refine ⟨hb, fun _ => ⟨⟨v', hv', hk⟩, fun k cur e f hc hm => ?_⟩⟩
  have hlt := (Array.getElem?_eq_some_iff.1 hc).1
  have h1 : k ≠ B := fun e => hm (.inl e)
  have h2 : v.ownBlock ≠ some k := fun e => hm (.inr ⟨v, hv, e⟩)
  refine ⟨(hs k hlt h1 h2).trans hc, ?_⟩
  rintro (e | ⟨v2, hv2, hk2⟩)
  · exact h1 e
  · obtain rfl := boxed_inj hv' hv2
    rcases hn with hn | ⟨g, hg, hge⟩
    · exact h2 (hn ▸ hk2)
    · rw [hg] at hk2; cases hk2; omega
theorem kpB_same {n₀ B : Nat} {t : TypeId} {W : World} : KpB n₀ B t W W := ⟨Below.refl _ _, fun h => ⟨h, fun _ _ _ _ hc hm => ⟨hc, hm⟩⟩⟩
end Go.Proofs.YthcngkcfopaigaaGreat
