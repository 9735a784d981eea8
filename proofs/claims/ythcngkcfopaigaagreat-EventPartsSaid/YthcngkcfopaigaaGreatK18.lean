/- The library's sort and compaction at slices of numbers that a call owns. -/
import Derived.Test.YthcngkcfopaigaaGreatK17
import Derived.Test.YthcngkcfopaigaaGreatShelf
import Derived.Sort.OwnSortedInts
namespace Go.Proofs.YthcngkcfopaigaaGreat
open Go.RowKit Go.Sort Go.Lib
def isort (l : List Int) : List Int := l.mergeSort fun x y => decide (x ≤ y)
theorem isort_length (l : List Int) : (isort l).length = l.length := List.length_mergeSort l
theorem isort_mem (l : List Int) (x : Int) : x ∈ isort l ↔ x ∈ l := List.mem_mergeSort
theorem isort_sorted (l : List Int) : (isort l).Pairwise (· ≤ ·) := by
  have h := List.pairwise_mergeSort (le := fun x y : Int => decide (x ≤ y)) (by intro a b c; simp; omega) (by intro a b; simp; omega) l
  exact h.imp (by intro a b h; simpa using h)
theorem sort_c (w0 w : World) (v : Value) (l : List Int) (hB : Below w0.heap.size w0 w) (hown : Own w w0.heap.size 2 v l) (hl : l.length ≤ 1000000000000) :
    Calls Tryz.prog 52 #[v] w fun e w' => e = .returned (.tuple #[]) ∧ Own w' w0.heap.size 2 v (isort l) ∧ Below w0.heap.size w0 w' := by
  obtain ⟨hlen, ⟨rfl, h0⟩ | ⟨g, cap, cur, rfl, hg, hh, h1, h2, h3, h4⟩⟩ := hown
  · have hnil := List.length_eq_zero_iff.1 h0
    subst hnil
    refine (Tryz.slices_Sort_int_none none 0 w).mono ?_
    rintro e w' ⟨he, rfl⟩
    exact ⟨he, by rw [show isort [] = [] by simp [isort]]; exact own_nil _ _ _, hB⟩
  · rw [Nat.mul_one] at h3 h4
    refine (Tryz.slices_Sort_int g 0 cap l w (holds_of_blockI hh h4) (blk_lt hh) (by omega)).mono ?_
    rintro e w' ⟨he, n, os, rfl⟩
    refine ⟨he, ?_, hB.grown (grownBy_sortedI _) hB.size (fun k e => by cases e; exact hg)⟩
    have := ownsRow_sortedI (w := w) (base := w0.heap.size) (g := g) (cap := cap) (n := n) (e := 2) (os := os) (cur := cur) (ss := l) (ts := isort l) (isort_length l) hg hh h1 h2 (by rw [h3, Nat.mul_one])
    unfold Own
    rw [isort_length]
    exact this
/- compaction -/
def icomp (l : List Int) : List Int := compactUpTo l.toArray l.length
theorem get_ig (l : List Int) {j : Nat} (h : j < l.length) : l.toArray[j]! = ig l j := by
  rw [ig_eq h]; simp [h]
theorem keeps_ig {l : List Int} {j : Nat} (h : j < l.length) : keeps l.toArray j = decide (j = 0 ∨ ig l j ≠ ig l (j - 1)) := by
  unfold keeps; rw [get_ig l h, get_ig l (by omega)]
theorem icomp_eq (l : List Int) : icomp l = ((List.range l.length).filter (keeps l.toArray)).map (ig l) := by
  unfold icomp compactUpTo
  apply List.map_congr_left
  intro j hj
  exact get_ig l (List.mem_range.1 (List.mem_filter.1 hj).1)
theorem sorted_ig {l : List Int} (h : l.Pairwise (· ≤ ·)) {i j : Nat} (hij : i ≤ j) (hj : j < l.length) : ig l i ≤ ig l j := by
  by_cases e : i = j
  · subst e; exact Int.le_refl _
  · have := List.pairwise_iff_getElem.1 h i j (by omega) hj (by omega)
    rw [ig_eq (by omega : i < l.length), ig_eq hj]; exact this
theorem icomp_sorted {l : List Int} (h : l.Pairwise (· ≤ ·)) : (icomp l).Pairwise (· < ·) := by
  rw [icomp_eq, List.pairwise_map]
  refine List.Pairwise.imp_of_mem (R := (· < ·)) ?_ ((List.pairwise_lt_range).filter _)
  intro a b ha hb hab
  have hb2 := List.mem_filter.1 hb
  have hbl := List.mem_range.1 hb2.1
  have hk := hb2.2
  rw [keeps_ig hbl, decide_eq_true_eq] at hk
  have h1 := sorted_ig h (show a ≤ b - 1 by omega) (by omega)
  have h2 := sorted_ig h (show b - 1 ≤ b by omega) hbl
  rcases hk with hk | hk
  · omega
  · omega
theorem icomp_mem {l : List Int} {x : Int} : x ∈ icomp l ↔ x ∈ l := by
  rw [icomp_eq]
  simp only [List.mem_map, List.mem_filter, List.mem_range]
  constructor
  · rintro ⟨j, ⟨hj, _⟩, rfl⟩; exact ig_get hj
  · intro hx
    obtain ⟨j, hj, rfl⟩ := List.mem_iff_getElem.1 hx
    clear hx
    induction j using Nat.strongRecOn with
    | _ j ih =>
      by_cases hk : keeps l.toArray j = true
      · exact ⟨j, ⟨hj, hk⟩, ig_eq hj⟩
      · rw [keeps_ig hj, decide_eq_true_eq] at hk
        have h0 : j ≠ 0 := fun e => hk (.inl e)
        have he : ig l j = ig l (j - 1) := Decidable.byContradiction fun e => hk (.inr e)
        obtain ⟨i, hi, hv⟩ := ih (j - 1) (by omega) (by omega)
        refine ⟨i, hi, ?_⟩
        rw [hv, ← ig_eq hj, he, ig_eq]
theorem icomp_small {l : List Int} (h : l.length < 2) : icomp l = l := by
  match l, h with
  | [], _ => rfl
  | [x], _ => rfl
theorem take_put (cur : Array Value) (ts rest : List Int) (h : ts.length + rest.length ≤ cur.size) : (putCells (Value.int .i64) 0 (ts ++ rest).toArray cur).toList.take ts.length = ts.map (Value.int .i64) := by
  have h1 := take_putCellsI cur (ts ++ rest) (by rw [List.length_append]; exact h)
  have h2 : ((putCells (Value.int .i64) 0 (ts ++ rest).toArray cur).toList.take (ts ++ rest).length).take ts.length = ((ts ++ rest).map (Value.int .i64)).take ts.length := by rw [h1]
  rw [List.take_take, Nat.min_eq_left (by simp), List.map_append, List.take_left' (by simp)] at h2
  exact h2
theorem icomp_length (l : List Int) : (icomp l).length ≤ l.length := by
  rw [icomp_eq, List.length_map]
  have := List.length_filter_le (keeps l.toArray) (List.range l.length)
  rw [List.length_range] at this; exact this
theorem compact_c (w0 w : World) (v : Value) (l : List Int) (hB : Below w0.heap.size w0 w) (hown : Own w w0.heap.size 2 v l) (hl : l.length ≤ 1000000000000) :
    Calls Tryz.prog 53 #[v] w fun e w' => (∃ v', e = .returned v' ∧ Own w' w0.heap.size 2 v' (icomp l)) ∧ Below w0.heap.size w0 w' := by
  by_cases h2 : l.length < 2
  · rw [icomp_small h2]
    obtain ⟨a, cap, rfl, _⟩ := own_ints hown
    have d1 : decide (l.length < 2) = true := decide_eq_true h2
    have d2 : decide ((l.length : Int) < 2) = true := decide_eq_true (by omega)
    have HO := Hid.mk hown
    clear hown
    go_enter Tryz.func53, Tryz.ntmps53
    go_wp2
    go_ret
    exact ⟨⟨_, rfl, HO.out⟩, hB⟩
  · obtain ⟨hlen, ⟨rfl, h0⟩ | ⟨g, cap, cur, rfl, hg, hh, h1, h2, h3, h4⟩⟩ := hown
    · omega
    · rw [Nat.mul_one] at h3 h4
      have hs : l.toArray.size = l.length := by simp
      have hc := Tryz.slices_Compact (Value.int .i64) (fun _ => rfl) (EqlAt.intD _ _ _) (NeqAt.intD _ _ _) 0 Tryz.zeroValue2 g 0 cap l.toArray w (holds_of_blockI hh h4) (by rw [hs]; omega) (by rw [hs]; exact h1)
      rw [hs] at hc
      have hle := icomp_length l
      refine hc.mono ?_
      rintro e w' ⟨he, q, rfl⟩
      have e0 : putRow (Value.int .i64) (Sort.ahead w q) g 0 (compactUpTo l.toArray l.length ++ List.replicate (l.length - (compactUpTo l.toArray l.length).length) 0).toArray = grow (putRow (Value.int .i64) (Sort.ahead w q) g 0 (icomp l ++ List.replicate (l.length - (icomp l).length) 0).toArray) #[] := by rw [grow_empty]; rfl
      rw [e0]
      refine ⟨⟨_, he, ⟨by simp, .inr ⟨g, cap, _, rfl, hg, heap_sortedI _ hh, ?_, h2, by simp [putCells, h3], ?_⟩⟩⟩, hB.grown (grownBy_sortedI _) hB.size (fun k e => by cases e; exact hg)⟩
      · omega
      · rw [Nat.mul_one]
        exact take_put cur (icomp l) _ (by rw [List.length_replicate, h3]; omega)
end Go.Proofs.YthcngkcfopaigaaGreat
