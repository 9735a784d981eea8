/- Words that the walks of this place share: worlds that lie behind another one but for new memory, rows of numbers, rows of structs. No program in sight. -/
import Derived.Below
import Derived.WalkKit
import Derived.KernelRfl
import Derived.Deep.QuietTactic
import Derived.BigQuiet
import Derived.LoopTactic
import Derived.Deep.LoopGhost
import Derived.Deep.DeepCutAuto
import Derived.Deep.CutBlock
import Derived.Outline
namespace Go.Proofs.YthcngkcfopaigaaGreat
open Go.RowKit
/-- worlds in which all that lay in W lies as it lay -/
def Wb (W : World) := { w' : World // Below W.heap.size W w' }
theorem Wb.b {W : World} (p : Wb W) : Below W.heap.size W p.1 := p.2
instance (W : World) : Nonempty (Wb W) := ⟨⟨W, Below.refl _ _⟩⟩
theorem wp_region_below {P : Program} {id : Nat} {Q : Exit → Act → World → Prop} {a : Act} {W : World} {l : List Oper} (hm : P.follows .mixedOrders = true) (hB : Region.lexB .any l.toArray = true)
    (h : wpQuiet P l.toArray (fun w' => ∃ p : Wb W, w' = p.1) (fun a' => ∀ w', (∃ p : Wb W, w' = p.1) → Q .normal a' w') l a) : (Code.region id l.toArray true).wp P Q a W :=
  wp_region_quiet (C := fun w' => ∃ p : Wb W, w' = p.1) hm hB ⟨⟨_, (Below.refl _ W).drew⟩, rfl⟩ (by simpa using h)
theorem wb_call {P : Program} {f : FuncId} {args : Array Value} {W : World} {v : Value} (p : Wb W)
    (h : Calls P f args p.1 fun e w' => e = .returned v ∧ Below p.1.heap.size p.1 w') : Calls P f args p.1 fun e w' => e = .returned v ∧ ∃ q : Wb W, w' = q.1 :=
  h.mono fun _ w' ⟨he, hb⟩ => ⟨he, ⟨w', p.2.trans (hb.mono p.2.size)⟩, rfl⟩
theorem wb_call_same {P : Program} {f : FuncId} {args : Array Value} {W : World} {v : Value} (p : Wb W)
    (h : Calls P f args p.1 fun e w' => e = .returned v ∧ p.1 = w') : Calls P f args p.1 fun e w' => e = .returned v ∧ ∃ q : Wb W, w' = q.1 :=
  h.mono fun _ _w' ⟨he, hb⟩ => ⟨he, p, hb.symm⟩
theorem wb_cell {W : World} (p : Wb W) {a : Addr} {v : Value} (h : W.cell? a = some v) (hb : a.block < W.heap.size) : p.1.cell? a = some v := (p.2.cell hb).trans h
theorem block_lt {w : World} {a : Addr} {v : Value} (h : w.cell? a = some v) : a.block < w.heap.size := by
  unfold World.cell? at h
  cases hh : w.heap[a.block]? with
  | none => rw [hh] at h; simp at h
  | some o => exact (Array.getElem?_eq_some_iff.1 hh).1
theorem below_get {w w' : World} (hb : Below w.heap.size w w') {a : Addr} {v : Value} (h : w.cell? a = some v) : w'.cell? a = some v := (hb.cell (block_lt h)).trans h
theorem bl_alloc {a w : World} (h : Below a.heap.size a w) (o : Obj) : Below a.heap.size a (w.alloc o) := h.alloc h.size o
theorem bl_drewN {B : Nat} {a w : World} (h : Below B a w) (n : Nat) : Below B a (w.drewN n) := h.trans ⟨rfl, rfl, rfl, Nat.le_refl _, fun _ _ => rfl⟩
theorem bl_set {a w : World} (h : Below a.heap.size a w) {p : Addr} (hp : a.heap.size ≤ p.block) (u : Value) : Below a.heap.size a (w.setCell p u) := h.setCell hp u
theorem bl_step {a w w' : World} (h : Below a.heap.size a w) (k : Below w.heap.size w w') : Below a.heap.size a w' := h.trans (k.mono h.size)
theorem bcell {W w1 : World} (hb : Below W.heap.size W w1) : (∀ b o, b < W.heap.size → w1.cell? ⟨b, o, none⟩ = W.cell? ⟨b, o, none⟩) ∧ (∀ b o, b < W.heap.size → w1.frozen? ⟨b, o, none⟩ = W.frozen? ⟨b, o, none⟩) :=
  ⟨fun b o h => hb.cell (p := ⟨b, o, none⟩) h, fun b o h => hb.frozen (p := ⟨b, o, none⟩) h⟩
/-- a block of the call's own reads as it was laid -/
theorem box_get {w w1 : World} {cs : Array Value} {T : TypeId} (hb : Below (w.alloc (.cells cs T)).heap.size (w.alloc (.cells cs T)) w1) (i : Nat) {v : Value} (h : cs[i]? = some v) : w1.cell? ⟨w.heap.size, i, none⟩ = some v := by
  rw [hb.cell (p := ⟨w.heap.size, i, none⟩) (by simp)]
  rw [World.cell?_alloc_new]; exact h
theorem blk_cell {w : World} {k : Nat} {cs : Array Value} {T : TypeId} (h : w.heap[k]? = some (.cells cs T (0, 0))) (i : Nat) {v : Value} (hv : cs[i]? = some v) : w.cell? ⟨k, i, none⟩ = some v := by
  simp [World.cell?, h, hv]
theorem blk_frozen {w : World} {k : Nat} {cs : Array Value} {T : TypeId} (h : w.heap[k]? = some (.cells cs T (0, 0))) (i : Nat) : w.frozen? ⟨k, i, none⟩ = false := by
  simp [World.frozen?, h]
theorem blk_lt {w : World} {k : Nat} {o : Obj} (h : w.heap[k]? = some o) : k < w.heap.size := (Array.getElem?_eq_some_iff.1 h).1
theorem blk_below {w w' : World} {k : Nat} {o : Obj} (h : w.heap[k]? = some o) (hb : Below w.heap.size w w') : w'.heap[k]? = some o := (hb.block k (blk_lt h)).trans h
theorem blk_alloc {w : World} {k : Nat} {o : Obj} (h : w.heap[k]? = some o) (o' : Obj) : (w.alloc o').heap[k]? = some o := (Below.heap_alloc w o' k (blk_lt h)).trans h
theorem blk_drewN {w : World} {k : Nat} {o : Obj} (h : w.heap[k]? = some o) (n : Nat) : (w.drewN n).heap[k]? = some o := h
theorem blk_new (w : World) (o : Obj) : (w.alloc o).heap[w.heap.size]? = some o := by
  show (w.heap.push o)[w.heap.size]? = some o
  simp
theorem blk_set {w : World} {k : Nat} {cs : Array Value} {T : TypeId} (h : w.heap[k]? = some (.cells cs T (0, 0))) (i : Nat) (v : Value) : (w.setCell ⟨k, i, none⟩ v).heap[k]? = some (.cells (cs.setIfInBounds i v) T (0, 0)) := by
  simp [World.setCell, Array.getElem?_modify, h]
theorem blk_set_ne {w : World} {k : Nat} {o : Obj} (h : w.heap[k]? = some o) {a : Addr} (ha : k ≠ a.block) (v : Value) : (w.setCell a v).heap[k]? = some o := (Below.heap_setCell w a v k ha).trans h
/-- the worlds that a walk leaves lie behind the one where it began -/
theorem blw {B : Nat} {a w : World} (h : Below B a w := by repeat (first | with_reducible exact Below.refl _ _ | with_reducible assumption | with_reducible refine bl_drewN ?_ _ | with_reducible refine Below.drew ?_ | with_reducible refine bl_alloc ?_ _ | with_reducible refine bl_set ?_ (by simp; try omega) _)) : Below B a w := h
theorem ret_bool {a b : Bool} (h : a = b) : Ending.returned (.bool a) = .returned (.bool b) := by rw [h]
theorem ret_int {k : IntKind} {a b : Int} (h : a = b) : Ending.returned (.int k a) = .returned (.int k b) := by rw [h]
theorem _root_.Go.RowKit.Hid.mk {p : Prop} (h : p) : Hid p := h
/-- a row of numbers, as a slice shows it -/
structure Ints (w : World) (a : Option Addr) (xs : List Int) : Prop where
  addr : xs ≠ [] → ∃ b off, a = some ⟨b, off, none⟩
  cell : ∀ b off, a = some ⟨b, off, none⟩ → ∀ j, j < xs.length → w.cell? ⟨b, off + j, none⟩ = some (.int .i64 (xs[j]?.getD 0))
theorem Ints.get {w : World} {a : Option Addr} {xs : List Int} (h : Ints w a xs) {j : Nat} (hj : j < xs.length) : ∃ b off, a = some ⟨b, off, none⟩ ∧ ∀ j, j < xs.length → w.cell? ⟨b, off + j, none⟩ = some (.int .i64 (xs[j]?.getD 0)) := by
  obtain ⟨b, off, rfl⟩ := h.addr (by intro e; rw [e] at hj; simp at hj)
  exact ⟨b, off, rfl, h.cell b off rfl⟩
theorem Ints.below {w w' : World} {a : Option Addr} {xs : List Int} (h : Ints w a xs) (hb : Below w.heap.size w w') : Ints w' a xs :=
  ⟨h.addr, fun b off e j hj => below_get hb (h.cell b off e j hj)⟩
/-- a row of structs of k cells -/
structure Row {α : Type} (k : Nat) (enc : α → List Value) (w : World) (a : Option Addr) (xs : List α) : Prop where
  addr : xs ≠ [] → ∃ b off, a = some ⟨b, off, none⟩
  cell : ∀ b off, a = some ⟨b, off, none⟩ → ∀ (j : Nat) x, xs[j]? = some x → ∀ (i : Nat) v, (enc x)[i]? = some v → w.cell? ⟨b, off + j * k + i, none⟩ = some v
theorem Row.below {α : Type} {k : Nat} {enc : α → List Value} {w w' : World} {a : Option Addr} {xs : List α} (h : Row k enc w a xs) (hb : Below w.heap.size w w') : Row k enc w' a xs :=
  ⟨h.addr, fun b off e j x hx i v hv => below_get hb (h.cell b off e j x hx i v hv)⟩
theorem Row.get {α : Type} {k : Nat} {enc : α → List Value} {w : World} {a : Option Addr} {xs : List α} (h : Row k enc w a xs) {j : Nat} (hj : j < xs.length) : ∃ b off, a = some ⟨b, off, none⟩ ∧ ∀ (j : Nat) x, xs[j]? = some x → ∀ (i : Nat) v, (enc x)[i]? = some v → w.cell? ⟨b, off + j * k + i, none⟩ = some v := by
  obtain ⟨b, off, rfl⟩ := h.addr (by intro e; rw [e] at hj; simp at hj)
  exact ⟨b, off, rfl, h.cell b off rfl⟩
end Go.Proofs.YthcngkcfopaigaaGreat
