/- Members in a part of a window are those members of the whole that meet the part. -/
import Derived.Test.YthcngkcfopaigaaGreatK22
namespace Go.Proofs.YthcngkcfopaigaaGreat
set_option linter.unusedVariables false
open Go.RowKit
def inw (f t : Int) (s : Int × Int) : Bool := decide (s.1 < t) && decide (f < s.2)
theorem ssort_filter (l : List (Int × Int)) (p : Int × Int → Bool) : ssort (l.filter p) = (ssort l).filter p := by
  have h1 : (ssort (l.filter p)).Perm ((ssort l).filter p) := (ssort_perm _).trans ((ssort_perm l).filter p).symm
  exact h1.eq_of_pairwise (fun a b _ _ h1 h2 => spanLe_antisymm h1 h2) (ssort_sorted _) ((ssort_sorted l).filter p)
theorem mspan_sub {base : Int} {ts : List (Int × Int)} {x long f t f' t' : Int} (h1 : f ≤ f') (h2 : t' ≤ t) : mspan base ts x long f' t' = (mspan base ts x long f t).filter (inw f' t') := by
  unfold mspan
  by_cases h : utcOk base ts x = true ∧ long ≠ 0 ∧ utcRaw base ts x < t' ∧ f' < utcRaw base ts x + long
  · rw [if_pos h, if_pos ⟨h.1, h.2.1, by omega, by omega⟩]
    simp [inw, h.2.2.1, h.2.2.2]
  · rw [if_neg h]
    split
    · rename_i g
      have : inw f' t' (utcRaw base ts x, utcRaw base ts x + long) = false := by
        unfold inw
        rw [Bool.and_eq_false_iff, decide_eq_false_iff_not, decide_eq_false_iff_not]
        by_cases a : utcRaw base ts x < t'
        · exact .inr (fun b => h ⟨g.1, g.2.1, a, b⟩)
        · exact .inl a
      simp [this]
    · rfl
theorem flatMap_sub {α : Type} (l : List α) (g g' : α → List (Int × Int)) (p : Int × Int → Bool) (h : ∀ x ∈ l, g' x = (g x).filter p) : l.flatMap g' = (l.flatMap g).filter p := by
  induction l with
  | nil => rfl
  | cons x l ih =>
    rw [List.flatMap_cons, List.flatMap_cons, List.filter_append, h x (List.mem_cons_self ..), ih (fun y hy => h y (List.mem_cons_of_mem _ hy))]
theorem flatMap_skip {α : Type} (l : List α) (g : α → List (Int × Int)) (q : α → Bool) (h : ∀ x ∈ l, q x = false → g x = []) : (l.filter q).flatMap g = l.flatMap g := by
  induction l with
  | nil => rfl
  | cons x l ih =>
    have ih' := ih (fun y hy => h y (List.mem_cons_of_mem _ hy))
    cases hq : q x with
    | true => rw [List.filter_cons_of_pos hq, List.flatMap_cons, List.flatMap_cons, ih']
    | false => rw [List.filter_cons_of_neg (by simp [hq]), List.flatMap_cons, h x (List.mem_cons_self ..) hq, ih']; rfl
theorem ptimes_sub {e : EventV} {f t f' t' : Int} (h1 : f ≤ f') (h2 : t' ≤ t) : ptimes e f' t' = (ptimes e f t).filter (fun x => decide (f' ≤ x) && decide (x < t')) := by
  apply sorted_ext
  · exact daysIn_sorted _ _ _
  · exact (daysIn_sorted _ _ _).filter _
  intro x
  simp only [ptimes, mem_daysIn, List.mem_filter, Bool.and_eq_true, decide_eq_true_eq]
  constructor
  · rintro ⟨a, b, c⟩; exact ⟨⟨by omega, by omega, c⟩, a, b⟩
  · rintro ⟨⟨_, _, c⟩, a, b⟩; exact ⟨a, b, c⟩
theorem mem1_sub {base : Int} {ts : List (Int × Int)} (hz : ZOk base ts) {e : EventV} {f t f' t' : Int} (h1 : f ≤ f') (h2 : t' ≤ t) :
    mem1 base ts e f' t' (ptimes e (f' - e.long - 1800) (t' + 1800)) = (mem1 base ts e f t (ptimes e (f - e.long - 1800) (t + 1800))).filter (inw f' t') := by
  unfold mem1
  rw [ptimes_sub (f := f - e.long - 1800) (t := t + 1800) (by omega) (by omega), flatMap_skip]
  · exact flatMap_sub _ _ _ _ (fun x _ => mspan_sub h1 h2)
  · intro x _ hx
    unfold mspan
    rw [if_neg]
    rintro ⟨_, _, a, b⟩
    have := hz.raw_near x
    rw [Bool.and_eq_false_iff, decide_eq_false_iff_not, decide_eq_false_iff_not] at hx
    omega
theorem mem2_sub {base : Int} {ts : List (Int × Int)} {e : EventV} {f t f' t' : Int} (h1 : f ≤ f') (h2 : t' ≤ t) (l : List (Int × Int × Int)) : mem2 base ts e f' t' l = (mem2 base ts e f t l).filter (inw f' t') := by
  unfold mem2
  refine flatMap_sub _ _ _ _ (fun x _ => ?_)
  split
  · exact mspan_sub h1 h2
  · rfl
theorem emembers_sub {base : Int} {ts : List (Int × Int)} {e : EventV} {f t f' t' : Int} (h1 : f ≤ f') (h2 : t' ≤ t) (h3 : f' < t') (g1 : -1099511627776 ≤ f) (g2 : t ≤ 1099511627776) (g3 : t - f ≤ 528480) :
    emembers base ts e f' t' = (emembers base ts e f t).filter (inw f' t') := by
  unfold emembers
  have hm : mout base ts e f' t' = mout base ts e f t := by
    unfold mout
    have e1 : decide (t ≤ f) = decide (t' ≤ f') := by rw [decide_eq_false (by omega), decide_eq_false (by omega)]
    have e2 : decide (f < -1099511627776) = decide (f' < -1099511627776) := by rw [decide_eq_false (by omega), decide_eq_false (by omega)]
    have e3 : decide (1099511627776 < t) = decide (1099511627776 < t') := by rw [decide_eq_false (by omega), decide_eq_false (by omega)]
    have e4 : decide (528480 < t - f) = decide (528480 < t' - f') := by rw [decide_eq_false (by omega), decide_eq_false (by omega)]
    rw [e1, e2, e3, e4]
  rw [hm]
  cases hmo : mout base ts e f t with
  | true => rfl
  | false =>
    simp only [Bool.false_eq_true, if_false]
    by_cases hw : e.world = true
    · simp only [hw, if_true]
      unfold wspan
      split
      · rename_i g; rw [if_pos (by omega)]; simp [inw, g.1, g.2]
      · rename_i g
        split
        · have : inw f' t' (e.start, e.start + e.long) = false := by
            unfold inw
            rw [Bool.and_eq_false_iff, decide_eq_false_iff_not, decide_eq_false_iff_not]
            show ¬ e.start < t' ∨ ¬ f' < e.start + e.long
            omega
          simp [this]
        · rfl
    · simp only [hw, Bool.false_eq_true, if_false]
      have hz : zmay base ts = true := by
        unfold mout at hmo
        simp only [Bool.or_eq_false_iff, Bool.not_eq_false'] at hmo
        exact hmo.1.1.1.1.2
      rw [mem1_sub (zmay_iff.1 hz) h1 h2, mem2_sub h1 h2, ← List.filter_append, ssort_filter]
theorem mspan_in {base : Int} {ts : List (Int × Int)} {x long f t : Int} (hl : 0 ≤ long) {s : Int × Int} (h : s ∈ mspan base ts x long f t) : s.1 < t ∧ f < s.2 ∧ s.1 < s.2 := by
  unfold mspan at h
  split at h
  · rename_i g
    rw [List.mem_singleton] at h
    subst h
    exact ⟨g.2.2.1, g.2.2.2, by show utcRaw base ts x < utcRaw base ts x + long; omega⟩
  · cases h
theorem emembers_in {base : Int} {ts : List (Int × Int)} {e : EventV} {f t : Int} {s : Int × Int} (h : s ∈ emembers base ts e f t) : s.1 < t ∧ f < s.2 ∧ s.1 < s.2 := by
  unfold emembers at h
  cases hmo : mout base ts e f t with
  | true => rw [hmo, if_pos rfl] at h; cases h
  | false =>
    rw [hmo, if_neg (by simp)] at h
    have hm : emay e = true := by
      unfold mout at hmo
      simp only [Bool.or_eq_false_iff, Bool.not_eq_false'] at hmo
      exact hmo.1.1.1.1.1
    have hbd := emay_bd hm
    split at h
    · unfold wspan at h
      split at h
      · rename_i g
        rw [List.mem_singleton] at h
        subst h
        exact ⟨g.1, g.2, by show e.start < e.start + e.long; omega⟩
      · cases h
    · have h' := (ssort_perm _).mem_iff.1 h
      rw [List.mem_append] at h'
      rcases h' with h' | h'
      · obtain ⟨x, _, h2⟩ := List.mem_flatMap.1 h'
        exact mspan_in (by omega) h2
      · obtain ⟨c, hc, h2⟩ := List.mem_flatMap.1 h'
        split at h2
        · rename_i hea
          have hag : e.again = true := by
            cases ha : e.again with
            | true => rfl
            | false => have := (emay_once hm ha).2.2.2.2.2.2.2; rw [this] at hc; cases hc
          obtain ⟨_, _, _, _, _, _, _, _, he3⟩ := emay_again hm hag
          obtain ⟨k, hk, hck⟩ := List.mem_iff_getElem.1 hc
          have := (echg_iff.1 he3).1 k hk
          have e3 : clo e.changes k = c.2.2 := by simp [clo, hk, hck]
          rw [e3] at this
          exact mspan_in (by omega) h2
        · cases h2
theorem emembers_sorted (base : Int) (ts : List (Int × Int)) (e : EventV) (f t : Int) : (emembers base ts e f t).Pairwise (fun x y => spanLe x y = true) := by
  unfold emembers
  split
  · exact List.Pairwise.nil
  · split
    · unfold wspan; split
      · exact List.pairwise_singleton _ _
      · exact List.Pairwise.nil
    · exact ssort_sorted _
theorem length_parts {l : List (Int × Int)} {p q : Int × Int → Bool} (h : ∀ s ∈ l, p s = true ∨ q s = true) : (l.filter p).length + (l.filter q).length = l.length + (l.filter (fun s => p s && q s)).length := by
  induction l with
  | nil => rfl
  | cons x l ih =>
    have ih' := ih (fun y hy => h y (List.mem_cons_of_mem _ hy))
    have hx := h x (List.mem_cons_self ..)
    cases hp : p x <;> cases hq : q x <;> simp [List.filter_cons, hp, hq] at hx ⊢ <;> omega
/-- the parts of a window: what the statement counts -/
def across (m : Int) (s : Int × Int) : Bool := decide (s.1 < m) && decide (m < s.2)
def ahead (m : Int) (s : Int × Int) : Bool := decide (s.1 < m)
theorem parts_left {base : Int} {ts : List (Int × Int)} {e : EventV} {f m t : Int} (h1 : f < m) (h2 : m < t) (g1 : -1099511627776 ≤ f) (g2 : t ≤ 1099511627776) (g3 : t - f ≤ 528480) :
    emembers base ts e f m = (emembers base ts e f t).filter (ahead m) := by
  rw [emembers_sub (Int.le_refl f) (by omega : m ≤ t) h1 g1 g2 g3]
  refine List.filter_congr (fun s hs => ?_)
  have := (emembers_in hs).2.1
  simp [inw, ahead, this]
theorem parts_right {base : Int} {ts : List (Int × Int)} {e : EventV} {f m t : Int} (h1 : f < m) (h2 : m < t) (g1 : -1099511627776 ≤ f) (g2 : t ≤ 1099511627776) (g3 : t - f ≤ 528480) :
    emembers base ts e m t = (emembers base ts e f t).filter (fun s => decide (m < s.2)) := by
  rw [emembers_sub (by omega : f ≤ m) (Int.le_refl t) h2 g1 g2 g3]
  refine List.filter_congr (fun s hs => ?_)
  have := (emembers_in hs).1
  simp [inw, this]
theorem parts_count {base : Int} {ts : List (Int × Int)} {e : EventV} {f m t : Int} (h1 : f < m) (h2 : m < t) (g1 : -1099511627776 ≤ f) (g2 : t ≤ 1099511627776) (g3 : t - f ≤ 528480) :
    (emembers base ts e f m).length + (emembers base ts e m t).length = (emembers base ts e f t).length + ((emembers base ts e f t).filter (across m)).length := by
  rw [parts_left h1 h2 g1 g2 g3, parts_right h1 h2 g1 g2 g3]
  refine length_parts (fun s hs => ?_)
  have := emembers_in hs
  simp only [ahead, decide_eq_true_eq]
  omega
theorem emembers_length {base : Int} {ts : List (Int × Int)} {e : EventV} {f t : Int} (h : e.changes.length ≤ 1000) : (emembers base ts e f t).length ≤ 1000000 := by
  unfold emembers
  cases hmo : mout base ts e f t with
  | true => simp
  | false =>
    simp only [Bool.false_eq_true, if_false]
    split
    · unfold wspan; split <;> simp
    · rw [ssort_length, List.length_append]
      have h1 := mem1_length base ts e f t (ptimes e (f - e.long - 1800) (t + 1800))
      have h2 := mem2_length base ts e f t e.changes
      simp only [mout, Bool.or_eq_false_iff, Bool.not_eq_false', decide_eq_false_iff_not] at hmo
      obtain ⟨⟨⟨⟨⟨hm, _⟩, g1⟩, _⟩, _⟩, g4⟩ := hmo
      have hbd := emay_bd hm
      have h3 := ptimes_length e (f := f - e.long - 1800) (t := t + 1800) (by omega)
      omega
def xa (l : List (Int × Int)) (k : Nat) : Int := (l[k]?.getD (0, 0)).1
def xb (l : List (Int × Int)) (k : Nat) : Int := (l[k]?.getD (0, 0)).2
theorem x_get {l : List (Int × Int)} {k : Nat} (h : k < l.length) : l[k]? = some (xa l k, xb l k) := by
  rw [List.getElem?_eq_getElem h]; simp [xa, xb, h]
theorem x_mem {l : List (Int × Int)} {k : Nat} (h : k < l.length) : (xa l k, xb l k) ∈ l := List.mem_iff_getElem?.2 ⟨k, x_get h⟩
theorem row_x {w : World} {b off : Nat} {l : List (Int × Int)} (h : ∀ (j : Nat) x, l[j]? = some x → ∀ (i : Nat) v, (encT x)[i]? = some v → w.cell? ⟨b, off + j * 2 + i, none⟩ = some v) {k : Nat} (hk : k < l.length) :
    w.cell? ⟨b, off + k * 2, none⟩ = some (.int .i64 (xa l k)) ∧ w.cell? ⟨b, off + k * 2 + 1, none⟩ = some (.int .i64 (xb l k)) :=
  ⟨by simpa using h k _ (x_get hk) 0 _ rfl, by simpa using h k _ (x_get hk) 1 _ rfl⟩
theorem filter_snoc {l : List (Int × Int)} {k : Nat} (h : k < l.length) (p : Int × Int → Bool) : (l.take (k + 1)).filter p = (l.take k).filter p ++ if p (xa l k, xb l k) = true then [(xa l k, xb l k)] else [] := by
  have e := x_get h
  rw [List.getElem?_eq_getElem h] at e
  injection e with e
  rw [List.take_succ_eq_append_getElem h, List.filter_append, e]
  congr 1
  split
  · rename_i g; simp [g]
  · rename_i g; simp [g]
theorem x_order {l : List (Int × Int)} (h : l.Pairwise (fun x y => spanLe x y = true)) {k : Nat} (hk : k < l.length) (h0 : 0 < k) : xa l (k - 1) < xa l k ∨ (xa l (k - 1) = xa l k ∧ xb l (k - 1) ≤ xb l k) := by
  have h1 := x_get (l := l) (k := k - 1) (by omega)
  have h2 := x_get hk
  rw [List.getElem?_eq_getElem (by omega)] at h1 h2
  have h3 := List.pairwise_iff_getElem.1 h (k - 1) k (by omega) hk (by omega)
  injection h1 with h1
  injection h2 with h2
  rw [h1, h2] at h3
  exact (spanLe_iff _ _).1 h3
end Go.Proofs.YthcngkcfopaigaaGreat
