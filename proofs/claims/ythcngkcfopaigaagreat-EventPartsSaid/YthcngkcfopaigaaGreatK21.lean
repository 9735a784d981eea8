/- Slices of spans that a call makes; the walk of event.member. -/
import Derived.Test.YthcngkcfopaigaaGreatK19
import Derived.Test.YthcngkcfopaigaaGreatK20
namespace Go.Proofs.YthcngkcfopaigaaGreat
open Go.RowKit
theorem info_span : (Tryz.prog.info? 34).map (fun i => (i.zero, i.size, i.bytes)) = some (some (.agg #[.int .i64 0, .int .i64 0]), 2, 16) := by kernel_rfl
def flatS (xs : List (Int × Int)) : List Value := xs.flatMap encT
def OwnS (w : World) (base : Nat) (v : Value) (xs : List (Int × Int)) : Prop := w.ownsRow base 34 2 v xs.length (flatS xs)
theorem owns_nil (w : World) (base : Nat) : OwnS w base (.slice none 0 0) [] := World.ownsRow_nil _ _ _ _
theorem OwnS.alloc {w : World} {b : Nat} {v : Value} {xs : List (Int × Int)} (h : OwnS w b v xs) (o : Obj) : OwnS (w.alloc o) b v xs := World.ownsRow.alloc h o
theorem owns_below {w w' : World} {b : Nat} {v : Value} {xs : List (Int × Int)} (h : OwnS w b v xs) (hb : Below w.heap.size w w') : OwnS w' b v xs :=
  ⟨h.1, h.2.imp id (fun ⟨g, cap, cur, h1, h2, h3, h4⟩ => ⟨g, cap, cur, h1, h2, blk_below h3 hb, h4⟩)⟩
theorem owns_base {w : World} {b b' : Nat} {v : Value} {xs : List (Int × Int)} (h : OwnS w b' v xs) (hb : b ≤ b') : OwnS w b v xs :=
  ⟨h.1, h.2.imp id (fun ⟨g, cap, cur, h1, h2, h3, h4⟩ => ⟨g, cap, cur, h1, Nat.le_trans hb h2, h3, h4⟩)⟩
theorem flatS_append (xs ys : List (Int × Int)) : flatS (xs ++ ys) = flatS xs ++ flatS ys := List.flatMap_append
theorem flatS_length (xs : List (Int × Int)) : (flatS xs).length = xs.length * 2 := by
  induction xs with
  | nil => rfl
  | cons x xs ih => simp only [flatS, List.flatMap_cons, List.length_append] at ih ⊢; rw [ih]; simp [encT]; omega
theorem flatS_get : ∀ (xs : List (Int × Int)) (j : Nat) (x : Int × Int), xs[j]? = some x → ∀ (i : Nat) v, (encT x)[i]? = some v → (flatS xs)[j * 2 + i]? = some v
  | [], j, x, h, i, v, hv => by simp at h
  | y :: ys, 0, x, h, i, v, hv => by
    simp at h; subst h
    have hi : i < (encT y).length := (List.getElem?_eq_some_iff.1 hv).1
    show ((encT y) ++ flatS ys)[0 * 2 + i]? = some v
    rw [Nat.zero_mul, Nat.zero_add, List.getElem?_append_left hi]; exact hv
  | y :: ys, j + 1, x, h, i, v, hv => by
    have h' : ys[j]? = some x := by simpa using h
    have ih := flatS_get ys j x h' i v hv
    show ((encT y) ++ flatS ys)[(j + 1) * 2 + i]? = some v
    rw [List.getElem?_append_right (by simp [encT]; omega)]
    have : (j + 1) * 2 + i - (encT y).length = j * 2 + i := by simp [encT]; omega
    rw [this]; exact ih
theorem owns_row {w : World} {b : Nat} {v : Value} {xs : List (Int × Int)} (h : OwnS w b v xs) : ∃ a cap, v = .slice a xs.length cap ∧ Row 2 encT w a xs := by
  obtain ⟨hl, ⟨rfl, h0⟩ | ⟨g, cap, cur, rfl, hg, hh, h1, h2, h3, h4⟩⟩ := h
  · refine ⟨none, 0, by rw [h0], ?_, ?_⟩
    · intro hne; exact absurd (List.length_eq_zero_iff.1 h0) hne
    · intro b off e; cases e
  · refine ⟨some ⟨g, 0, none⟩, cap, rfl, fun _ => ⟨g, 0, rfl⟩, ?_⟩
    intro b' off he j x hx i v hv
    cases he
    refine blk_cell hh _ ?_
    have h5 := flatS_get xs j x hx i v hv
    have hj : j < xs.length := (List.getElem?_eq_some_iff.1 hx).1
    have hi : i < 2 := (List.getElem?_eq_some_iff.1 hv).1
    rw [← h4, List.getElem?_take_of_lt (by omega)] at h5
    rw [← Array.getElem?_toList]
    rw [Nat.zero_add]; exact h5
theorem owns_append {t : TypeId} {ops : Array Oper} {rest : List Oper} {o : Oper} {a : Act} {Q : Exit → Act → World → Prop} {w : World}
    (ht : Tryz.prog.underlying t = some (.slice 34)) (hgd : o.guard = none) (s x : Operand) (ho : o.op = .call { callee := .builtin .append, args := #[s, x], argTypes := #[t, t] })
    (base : Nat) (v : Value) (xs : List (Int × Int)) (p q : Int) (k : Nat) (hs : a.eval s = v) (hown : OwnS w base v xs) (hx : a.eval x = .slice (some ⟨k, 0, none⟩) 1 1) (hn : w.heap[k]? = some (.cells #[.int .i64 p, .int .i64 q] 34 (0, 0)))
    (hl : xs.length ≤ 1000000000000) (hbase : base ≤ w.heap.size)
    (h : ∀ v' w', OwnS w' base v' (xs ++ [(p, q)]) → Below base w w' → wpList Tryz.prog ops Q rest (a.put o.dst v') w') : wpList Tryz.prog ops Q (o :: rest) a w := by
  obtain ⟨i0, hi, hz0, hz1, hz2⟩ := info_parts info_span
  have hm : (1000000000000 : Nat) + 1 ≤ maxLen := by decide
  refine wpList_append_own w hgd s x t ho base 34 i0 (.agg #[.int .i64 0, .int .i64 0]) 2 16 ht hi hz0 hz1 hz2 rfl (by decide) v xs.length _ hs hown ⟨k, 0, none⟩ 1 1 [.int .i64 p, .int .i64 q] hx rfl ?_ ?_ (by omega) (by omega) hbase ?_
  · intro j u hj
    match j, hj with
    | 0, hj => simp at hj; subst hj; exact blk_cell hn 0 rfl
    | 1, hj => simp at hj; subst hj; exact blk_cell hn 1 rfl
    | j + 2, hj => simp at hj
  · intro u hu; simp at hu; rcases hu with rfl | rfl <;> rfl
  · intro v' w' h1 h2 _
    refine h v' w' ?_ ?_
    · unfold OwnS; rw [List.length_append, flatS_append]; exact h1
    · refine (Below.refl base w).grown h2 hbase (fun j e => ?_)
      rcases hown.2 with ⟨hv, _⟩ | ⟨g, cap, cur, hv, hb, _⟩
      · rw [hv] at e; simp [Value.ownBlock] at e
      · rw [hv] at e; simp [Value.ownBlock] at e; omega
/-- the member of a time, if it meets the window -/
def mspan (base : Int) (ts : List (Int × Int)) (x long f t : Int) : List (Int × Int) :=
  if utcOk base ts x = true ∧ long ≠ 0 ∧ utcRaw base ts x < t ∧ f < utcRaw base ts x + long then [(utcRaw base ts x, utcRaw base ts x + long)] else []
set_option maxRecDepth 100000 in
set_option maxHeartbeats 8000000 in
theorem member_c (w0 w : World) (v : Value) (xs : List (Int × Int)) (base : Int) (a : Option Addr) (cap : Nat) (ts : List (Int × Int)) (x long f t : Int) (hB : Below w0.heap.size w0 w) (hown : OwnS w w0.heap.size v xs) (hxs : xs.length ≤ 100000000000) (hr : Row 2 encT w0 a ts) (hz : zmay base ts = true)
    (hx : -1000000000 ≤ x) (hx2 : x ≤ 1000000000) (hl : 0 ≤ long) (hl2 : long ≤ 10080) :
    Calls Tryz.prog 31 #[v, .agg #[.int .i64 base, .slice a ts.length cap], .int .i64 x, .int .i64 long, .agg #[.int .i64 f, .int .i64 t]] w fun y w' =>
      (∃ v', y = .returned v' ∧ OwnS w' w0.heap.size v' (xs ++ mspan base ts x long f t)) ∧ Below w0.heap.size w0 w' := by
  have hzo := zmay_iff.1 hz
  have hlen := hzo.len
  have hnr := hzo.raw_near x
  have HU := Hid.mk (fun w' (hb : Below w.heap.size w w') => utc_c base a cap ts x w' ((hr.below hB).below hb) (by omega))
  unfold UtcRet at HU
  have HS := Hid.mk (show mspan base ts x long f t = (if utcOk base ts x = true ∧ long ≠ 0 ∧ utcRaw base ts x < t ∧ f < utcRaw base ts x + long then [(utcRaw base ts x, utcRaw base ts x + long)] else []) from rfl)
  generalize mspan base ts x long f t = ms at *
  have HO := Hid.mk hown
  clear hown hz hzo hr
  obtain ⟨hn1, hn2⟩ := hnr
  generalize utcRaw base ts x = U at *
  cases hok : utcOk base ts x with
  | false =>
    have HM : Hid (ms = []) := Hid.mk (by rw [HS.out, if_neg (by rw [hok]; simp)])
    have HU2 : Hid (∀ w', Below w.heap.size w w' → Calls Tryz.prog 57 #[.agg #[.int .i64 base, .slice a ts.length cap], .int .i64 x] w' fun e w2 => (∃ kind : Int, e = .returned (.tuple #[.int .i64 0, .int .i64 kind, .bool false])) ∧ Below w'.heap.size w' w2) :=
      Hid.mk fun w' hb => (HU.out w' hb).mono fun e w2 h => ⟨by obtain ⟨k, hk⟩ := h.1; exact ⟨k, by rw [hk, hok]; rfl⟩, h.2⟩
    clear hok HU HS
    go_enter Tryz.func31, Tryz.ntmps31
    try dsimp only [List.append]
    go_wp2_with (go_at_call 57; (refine (HU2.out _ ?_).mono ?_); exact blw; rintro e' w1 ⟨⟨kind, rfl⟩, hb1⟩)
    go_ret
    have hb2 := bl_step (a := w) blw hb1
    exact ⟨⟨_, rfl, by rw [HM.out, List.append_nil]; exact (owns_below HO.out hb2).alloc _⟩, bl_alloc (bl_step hB hb2) _⟩
  | true =>
    have HU2 : Hid (∀ w', Below w.heap.size w w' → Calls Tryz.prog 57 #[.agg #[.int .i64 base, .slice a ts.length cap], .int .i64 x] w' fun e w2 => (∃ kind : Int, e = .returned (.tuple #[.int .i64 U, .int .i64 kind, .bool true])) ∧ Below w'.heap.size w' w2) :=
      Hid.mk fun w' hb => (HU.out w' hb).mono fun e w2 h => ⟨by obtain ⟨k, hk⟩ := h.1; exact ⟨k, by rw [hk, hok]; rfl⟩, h.2⟩
    have HS2 : Hid (ms = if long ≠ 0 ∧ U < t ∧ f < U + long then [(U, U + long)] else []) := Hid.mk (by rw [HS.out, hok]; simp)
    clear hok HU HS
    have hc : (long = 0) ∨ (long ≠ 0 ∧ t ≤ U) ∨ (long ≠ 0 ∧ U < t ∧ U + long ≤ f) ∨ (long ≠ 0 ∧ U < t ∧ f < U + long) := by omega
    rcases hc with h1 | ⟨h1, h2⟩ | ⟨h1, h2, h3⟩ | ⟨h1, h2, h3⟩
    · have HM : Hid (ms = []) := Hid.mk (by rw [HS2.out, if_neg (by omega)])
      have t1 : (long == 0) = true := by simpa using h1
      clear h1
      go_enter Tryz.func31, Tryz.ntmps31
      try dsimp only [List.append]
      go_wp2_with (go_at_call 57; (refine (HU2.out _ ?_).mono ?_); exact blw; rintro e' w1 ⟨⟨kind, rfl⟩, hb1⟩)
      go_ret
      have hb2 := bl_step (a := w) blw hb1
      exact ⟨⟨_, rfl, by rw [HM.out, List.append_nil]; exact (owns_below HO.out hb2).alloc _⟩, bl_alloc (bl_step hB hb2) _⟩
    · have HM : Hid (ms = []) := Hid.mk (by rw [HS2.out, if_neg (by omega)])
      have t1 : (long == 0) = false := by simpa using h1
      have t2 : decide (t ≤ U) = true := decide_eq_true h2
      clear h1
      go_enter Tryz.func31, Tryz.ntmps31
      try dsimp only [List.append]
      go_wp2_with (go_at_call 57; (refine (HU2.out _ ?_).mono ?_); exact blw; rintro e' w1 ⟨⟨kind, rfl⟩, hb1⟩; obtain ⟨b1, b2⟩ := two_box hb1; have u0 := b2 0 _ rfl; have u1 := b2 1 _ rfl; have hz1 : w.heap.size + 1 < w1.heap.size := by have := hb1.size; simp at this; omega)
      go_ret
      have hb2 := bl_step (a := w) blw hb1
      exact ⟨⟨_, rfl, by rw [HM.out, List.append_nil]; exact (owns_below HO.out hb2).alloc _⟩, bl_alloc (bl_step hB hb2) _⟩
    · have HM : Hid (ms = []) := Hid.mk (by rw [HS2.out, if_neg (by omega)])
      have t1 : (long == 0) = false := by simpa using h1
      have t2 : decide (t ≤ U) = false := decide_eq_false (by omega)
      have t3 : decide (U + long ≤ f) = true := decide_eq_true h3
      clear h1
      go_enter Tryz.func31, Tryz.ntmps31
      try dsimp only [List.append]
      go_wp2_with (go_at_call 57; (refine (HU2.out _ ?_).mono ?_); exact blw; rintro e' w1 ⟨⟨kind, rfl⟩, hb1⟩; obtain ⟨b1, b2⟩ := two_box hb1; have u0 := b2 0 _ rfl; have u1 := b2 1 _ rfl; have hz1 : w.heap.size + 1 < w1.heap.size := by have := hb1.size; simp at this; omega)
      go_ret
      have hb2 := bl_step (a := w) blw hb1
      exact ⟨⟨_, rfl, by rw [HM.out, List.append_nil]; exact (owns_below HO.out hb2).alloc _⟩, bl_alloc (bl_step hB hb2) _⟩
    · have HM : Hid (ms = [(U, U + long)]) := Hid.mk (by rw [HS2.out, if_pos ⟨h1, h2, h3⟩])
      have t1 : (long == 0) = false := by simpa using h1
      have t2 : decide (t ≤ U) = false := decide_eq_false (by omega)
      have t3 : decide (U + long ≤ f) = false := decide_eq_false (by omega)
      clear h1
      go_enter Tryz.func31, Tryz.ntmps31
      try dsimp only [List.append]
      go_wp2_with (first | (at_builtin; refine owns_append Tryz.underlying38 rfl _ _ rfl w0.heap.size _ xs U (U + long) _ rfl ?c1 rfl ?c2 ?c3 ?c4 ?_) | (go_at_call 57; (refine (HU2.out _ ?_).mono ?_); exact blw; rintro e' w1 ⟨⟨kind, rfl⟩, hb1⟩; obtain ⟨b1, b2⟩ := two_box hb1; have u0 := b2 0 _ rfl; have u1 := b2 1 _ rfl; have hz1 : w.heap.size + 1 < w1.heap.size := Nat.lt_of_lt_of_le (by simp) hb1.size; have hb2 := bl_step (a := w) blw hb1))
      case c1 => exact ((owns_below HO.out hb2).alloc _).alloc _
      case c2 => exact blk_new2 _ _ _
      case c3 => omega
      case c4 => have := (bl_step hB hb2).size; simp; omega
      intro v' w4 ho4 hb4
      have hz4 := (bl_alloc (a := w0) (bl_alloc (a := w0) (bl_step hB hb2) (.cells #[.int .i64 U, .int .i64 (U + long)] 34)) (.cells #[.int .i64 U, .int .i64 (U + long)] 34)).trans hb4
      go_wp2
      go_ret
      exact ⟨⟨_, rfl, by rw [HM.out]; exact ho4⟩, hz4⟩
end Go.Proofs.YthcngkcfopaigaaGreat
