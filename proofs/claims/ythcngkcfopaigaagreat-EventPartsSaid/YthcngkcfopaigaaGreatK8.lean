/- Slices of numbers that a call makes: append. -/
import Derived.Test.YthcngkcfopaigaaGreatProg
import Derived.Test.YthcngkcfopaigaaGreatK3
import Derived.OwnWalk
namespace Go.Proofs.YthcngkcfopaigaaGreat
open Go.RowKit
theorem info_int : (Tryz.prog.info? 3).map (fun i => (i.zero, i.size, i.bytes)) = some (some (.int .i64 0), 1, 8) := by kernel_rfl
theorem info_i64 : (Tryz.prog.info? 2).map (fun i => (i.zero, i.size, i.bytes)) = some (some (.int .i64 0), 1, 8) := by kernel_rfl
/-- a slice of numbers that lies in memory at or beyond base -/
def Own (w : World) (base : Nat) (e : TypeId) (v : Value) (xs : List Int) : Prop := w.ownsRow base e 1 v xs.length (xs.map (Value.int .i64))
theorem own_nil (w : World) (base : Nat) (e : TypeId) : Own w base e (.slice none 0 0) [] := World.ownsRow_nil _ _ _ _
theorem own_append {e t : TypeId} {ops : Array Oper} {rest : List Oper} {o : Oper} {a : Act} {Q : Exit → Act → World → Prop} {w : World} (hI : (Tryz.prog.info? e).map (fun i => (i.zero, i.size, i.bytes)) = some (some (.int .i64 0), 1, 8))
    (ht : Tryz.prog.underlying t = some (.slice e)) (hgd : o.guard = none) (s x : Operand) (ho : o.op = .call { callee := .builtin .append, args := #[s, x], argTypes := #[t, t] })
    (base : Nat) (v : Value) (xs : List Int) (n : Int) (k : Nat) (hs : a.eval s = v) (hown : Own w base e v xs) (hx : a.eval x = .slice (some ⟨k, 0, none⟩) 1 1) (hn : w.cell? ⟨k, 0, none⟩ = some (.int .i64 n))
    (hl : xs.length ≤ 1000000000000) (hbase : base ≤ w.heap.size)
    (h : ∀ v' w', Own w' base e v' (xs ++ [n]) → Below base w w' → wpList Tryz.prog ops Q rest (a.put o.dst v') w') : wpList Tryz.prog ops Q (o :: rest) a w := by
  obtain ⟨i0, hi, hz0, hz1, hz2⟩ := info_parts hI
  have hm : (1000000000000 : Nat) + 1 ≤ maxLen := by decide
  refine wpList_append_own w hgd s x t ho base e i0 (.int .i64 0) 1 8 ht hi hz0 hz1 hz2 rfl (by decide) v xs.length _ hs hown ⟨k, 0, none⟩ 1 1 [.int .i64 n] hx rfl ?_ ?_ (by omega) (by omega) hbase ?_
  · intro j u hj
    match j, hj with
    | 0, hj => simp at hj; subst hj; exact hn
  · intro u hu; simp at hu; subst hu; rfl
  · intro v' w' h1 h2 _
    refine h v' w' ?_ ?_
    · unfold Own; rw [List.length_append, List.map_append]; exact h1
    · refine (Below.refl base w).grown h2 hbase (fun j e => ?_)
      rcases hown.2 with ⟨hv, _⟩ | ⟨g, cap, cur, hv, hb, _⟩
      · rw [hv] at e; simp [Value.ownBlock] at e
      · rw [hv] at e; simp [Value.ownBlock] at e; omega
end Go.Proofs.YthcngkcfopaigaaGreat
