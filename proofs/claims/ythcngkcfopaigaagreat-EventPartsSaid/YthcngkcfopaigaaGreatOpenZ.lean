/- The arguments of the statements, opened: a zone, an event, a span; and the last step of a row whose call writes to none of them. -/
import Derived.Test.YthcngkcfopaigaaGreatK16
import Derived.Test.YthcngkcfopaigaaGreatK6
import Derived.WalkKit
import Derived.ProofKit
import Derived.OpenShut
import Derived.Below
import Derived.ChangeSame
import Derived.Carry
import Derived.Deep.Slices
namespace Go.Proofs.YthcngkcfopaigaaGreat
set_option linter.unusedVariables false
open Go.ChangeShapes Go.WideShapes Go.ChangeAt Go.RowKit Go.Deep
section
variable {H : Type} {enc : TypeId × Value → H} {P : Program} {w : World} {base : Nat} {sp : Nat → Bool} {held : Bool}
theorem add_at (b off n : Nat) : (Addr.mk b off none).add n = ⟨b, off + n, none⟩ := by
  unfold Addr.add; split
  · rename_i h; subst h; rfl
  · rfl
theorem open_row {t e : TypeId} {k : Nat} (ht : P.underlying t = some (.slice e)) (hC : P.cellsOf e = k) (hk : 0 < k) {α : Type} (encE : α → List Value)
    (hel : ∀ (n : Nat) (cs : List Value) (y : DataW H × List MemPlace), DataW.trod enc P w base sp held n e cs = some y → ∃ x : α, cs = encE x) {fuel : Nat} {cs : List Value} {x : DataW H × List MemPlace} (h : DataW.trod enc P w base sp held fuel t cs = some x) :
    ∃ (xs : List α) (a : Option Addr) (cap : Nat), cs = [.slice a xs.length cap] ∧ Row k encE w a xs ∧ xs.length ≤ maxLen := by
  rcases open_slice ht h with ⟨rfl, _⟩ | ⟨a, len, cap, m, n, D, Pl, rfl, hb, hl, hm, hmm, hx, hi⟩
  · exact ⟨[], none, 0, rfl, ⟨fun h => absurd rfl h, fun _ _ e => by cases e⟩, Nat.zero_le _⟩
  · have hlm : len ≤ m := by rw [hmm]; split <;> omega
    have key : ∀ n, n ≤ len → ∃ xs : List α, xs.length = n ∧ ∀ (j : Nat) x, xs[j]? = some x → (encE x).length = k ∧ ∀ (i : Nat) v, (encE x)[i]? = some v → w.cell? (a.add (j * k + i)) = some v := by
      intro n
      induction n with
      | zero => exact fun _ => ⟨[], rfl, fun j x h => by simp at h⟩
      | succ n ih =>
        intro hn
        obtain ⟨xs, h1, h2⟩ := ih (by omega)
        obtain ⟨cs', hc, ht'⟩ := hi n (by omega)
        rw [hC] at hc
        obtain ⟨x, rfl⟩ := hel _ _ _ ht'
        obtain ⟨_, hcl, hat⟩ := World.cells?_some hc
        refine ⟨xs ++ [x], by simp [h1], fun j y hj => ?_⟩
        by_cases hjn : j < n
        · rw [List.getElem?_append_left (by omega)] at hj; exact h2 j y hj
        · have hj2 : j < (xs ++ [x]).length := (List.getElem?_eq_some_iff.1 hj).1
          rw [List.length_append, h1] at hj2
          obtain rfl : j = n := by simp at hj2; omega
          rw [List.getElem?_append_right (by omega), h1, Nat.sub_self] at hj
          cases hj
          refine ⟨hcl, fun i v hv => ?_⟩
          have hik : i < k := by rw [← hcl]; exact (List.getElem?_eq_some_iff.1 hv).1
          rw [← Go.Deep.add_add, hat i hik]; exact hv
    obtain ⟨xs, h1, h2⟩ := key len (Nat.le_refl _)
    refine ⟨xs, some a, cap, by rw [h1], ⟨fun hne => ?_, fun b off he j x hxx i v hv => ?_⟩, by omega⟩
    · obtain ⟨b, off, s⟩ := a
      match xs, hne with
      | x :: xs, _ =>
        obtain ⟨h3, h4⟩ := h2 0 x rfl
        have h5 := h4 0 _ (List.getElem?_eq_getElem (by omega))
        rw [Nat.zero_mul] at h5
        have h6 : (Addr.mk b off s).spot = none := World.cell?_spot h5
        exact ⟨b, off, by rw [show s = none from h6]⟩
    · cases he
      have := (h2 j x hxx).2 i v hv
      rw [add_at] at this
      rwa [Nat.add_assoc]
theorem open_nums {t e : TypeId} (ht : P.underlying t = some (.slice e)) (he : P.underlying e = some (.int .i64)) (hC : P.cellsOf e = 1) {fuel : Nat} {cs : List Value} {x : DataW H × List MemPlace} (h : DataW.trod enc P w base sp held fuel t cs = some x) :
    ∃ (xs : List Int) (a : Option Addr) (cap : Nat), cs = [.slice a xs.length cap] ∧ Ints w a xs ∧ xs.length ≤ maxLen := by
  obtain ⟨xs, a, cap, h1, h2, h3⟩ := open_row ht hC (by decide) (fun n : Int => [Value.int .i64 n]) (fun n cs y hy => by obtain ⟨m, rfl, _⟩ := DataW.trod_int he hy; exact ⟨m, rfl⟩) h
  refine ⟨xs, a, cap, h1, ⟨h2.addr, fun b off e j hj => ?_⟩, h3⟩
  have := h2.cell b off e j xs[j] (List.getElem?_eq_getElem hj) 0 _ rfl
  rw [Nat.mul_one, Nat.add_zero] at this
  rw [this, List.getElem?_eq_getElem hj]; rfl
theorem cells1 {n k : Nat} {t : TypeId} {cs : List Value} {y : Option (DataW H × List MemPlace)} (hi : P.underlying t = some (.int .i64)) (h : DataW.trod enc P w base sp held n t cs = y) (hy : y.isSome = true) : ∃ m, cs = [.int .i64 m] := by
  obtain ⟨y', rfl⟩ := Option.isSome_iff_exists.1 hy
  obtain ⟨m, rfl, _⟩ := DataW.trod_int hi h
  exact ⟨m, rfl⟩
theorem open_two {t a b : TypeId} {f0 f1 : Field} (ht : P.underlying t = some (.struct #[f0, f1])) (hC : P.cellsOf t = 2) (o0 : f0.offset = 0) (o1 : f1.offset = 1) (t0 : f0.type = a) (t1 : f1.type = b) (ca : P.cellsOf a = 1) (cb : P.cellsOf b = 1) (ha : P.underlying a = some (.int .i64)) (hb : P.underlying b = some (.int .i64))
    (n : Nat) (cs : List Value) (y : DataW H × List MemPlace) (h : DataW.trod enc P w base sp held n t cs = some y) : ∃ x : Int × Int, cs = [.int .i64 x.1, .int .i64 x.2] := by
  obtain ⟨xs, n', _, _, hlen, hxl, hf⟩ := DataW.trod_struct ht h
  rw [hC] at hlen
  have hxl2 : xs.length = 2 := hxl
  have g0 := hf 0 f0 rfl
  have g1 := hf 1 f1 rfl
  rw [o0, t0, ca] at g0
  rw [o1, t1, cb] at g1
  match cs, hlen with
  | [c0, c1], _ =>
    obtain ⟨m0, e0⟩ := cells1 (k := 0) ha g0 (by rw [List.getElem?_eq_getElem (by omega)]; rfl)
    obtain ⟨m1, e1⟩ := cells1 (k := 0) hb g1 (by rw [List.getElem?_eq_getElem (by omega)]; rfl)
    simp at e0 e1
    subst e0; subst e1
    exact ⟨(m0, m1), rfl⟩
theorem open_three {t a b c : TypeId} {f0 f1 f2 : Field} (ht : P.underlying t = some (.struct #[f0, f1, f2])) (hC : P.cellsOf t = 3) (o0 : f0.offset = 0) (o1 : f1.offset = 1) (o2 : f2.offset = 2) (t0 : f0.type = a) (t1 : f1.type = b) (t2 : f2.type = c) (ca : P.cellsOf a = 1) (cb : P.cellsOf b = 1) (cc : P.cellsOf c = 1)
    (ha : P.underlying a = some (.int .i64)) (hb : P.underlying b = some (.int .i64)) (hc : P.underlying c = some (.int .i64))
    (n : Nat) (cs : List Value) (y : DataW H × List MemPlace) (h : DataW.trod enc P w base sp held n t cs = some y) : ∃ x : Int × Int × Int, cs = [.int .i64 x.1, .int .i64 x.2.1, .int .i64 x.2.2] := by
  obtain ⟨xs, n', _, _, hlen, hxl, hf⟩ := DataW.trod_struct ht h
  rw [hC] at hlen
  have hxl2 : xs.length = 3 := hxl
  have g0 := hf 0 f0 rfl
  have g1 := hf 1 f1 rfl
  have g2 := hf 2 f2 rfl
  rw [o0, t0, ca] at g0
  rw [o1, t1, cb] at g1
  rw [o2, t2, cc] at g2
  match cs, hlen with
  | [c0, c1, c2], _ =>
    obtain ⟨m0, e0⟩ := cells1 (k := 0) ha g0 (by rw [List.getElem?_eq_getElem (by omega)]; rfl)
    obtain ⟨m1, e1⟩ := cells1 (k := 0) hb g1 (by rw [List.getElem?_eq_getElem (by omega)]; rfl)
    obtain ⟨m2, e2⟩ := cells1 (k := 0) hc g2 (by rw [List.getElem?_eq_getElem (by omega)]; rfl)
    simp at e0 e1 e2
    subst e0; subst e1; subst e2
    exact ⟨(m0, m1, m2), rfl⟩
theorem fld {n k o : Nat} {t : TypeId} {cs : List Value} {y : Option (DataW H × List MemPlace)} (h : DataW.trod enc P w base sp held n t ((cs.drop o).take (P.cellsOf t)) = y) (hc : P.cellsOf t = k) : DataW.trod enc P w base sp held n t ((cs.drop o).take k) = y := hc ▸ h
end
theorem cells_int : Tryz.prog.cellsOf 3 = 1 := by kernel_rfl
theorem cells_i64 : Tryz.prog.cellsOf 2 = 1 := by kernel_rfl
theorem cells_bool : Tryz.prog.cellsOf 4 = 1 := by kernel_rfl
theorem cells_ints : Tryz.prog.cellsOf 25 = 1 := by kernel_rfl
theorem cells_i64s : Tryz.prog.cellsOf 29 = 1 := by kernel_rfl
theorem cells_turn : Tryz.prog.cellsOf 69 = 2 := by kernel_rfl
theorem cells_turns : Tryz.prog.cellsOf 22 = 1 := by kernel_rfl
theorem cells_day : Tryz.prog.cellsOf 73 = 2 := by kernel_rfl
theorem cells_days : Tryz.prog.cellsOf 26 = 1 := by kernel_rfl
theorem cells_change : Tryz.prog.cellsOf 47 = 3 := by kernel_rfl
theorem cells_changes : Tryz.prog.cellsOf 30 = 1 := by kernel_rfl
theorem cells_rule : Tryz.prog.cellsOf 28 = 9 := by kernel_rfl
theorem cells_event : Tryz.prog.cellsOf 32 = 16 := by kernel_rfl
theorem cells_zone : Tryz.prog.cellsOf 24 = 2 := by kernel_rfl
theorem cells_span : Tryz.prog.cellsOf 34 = 2 := by kernel_rfl
theorem u_int : Tryz.prog.underlying 3 = some (.int .i64) := Tryz.underlying3
theorem u_i64 : Tryz.prog.underlying 2 = some (.int .i64) := Tryz.underlying2
/-- where the rows of a rule and of an event lie, their lengths unknown as yet -/
structure RuleIn (w : World) (r : RuleV) (a1 a2 a3 a4 : Option Addr) : Prop where
  r1 : Ints w a1 r.byMonth
  r2 : Ints w a2 r.byMonthDay
  r3 : Row 2 encD w a3 r.byDay
  r4 : Ints w a4 r.bySetPos
structure EvIn (w : World) (e : EventV) (A : EvA) : Prop where
  rule : RuleIn w e.rule A.a1 A.a2 A.a3 A.a4
  r1 : Ints w A.e1 e.ex
  r2 : Ints w A.e2 e.plus
  r3 : Row 3 encC w A.e3 e.changes
/-- an event whose rows are longer than the statements ask about -/
def rgreat (r : RuleV) : Bool := decide (100 < r.byMonth.length) || decide (100 < r.byMonthDay.length) || decide (200 < r.byDay.length) || decide (900 < r.bySetPos.length)
def egreat (e : EventV) : Bool := decide (100 < e.ex.length) || decide (100 < e.plus.length) || decide (100 < e.changes.length) || rgreat e.rule
theorem EvIn.evAt {w : World} {e : EventV} {A : EvA} (h : EvIn w e A) (g : egreat e = false) : EvAt w e A := by
  simp only [egreat, rgreat, Bool.or_eq_false_iff, decide_eq_false_iff_not] at g
  obtain ⟨⟨⟨g1, g2⟩, g3⟩, ⟨⟨g4, g5⟩, g6⟩, g7⟩ := g
  exact ⟨⟨h.rule.r1, h.rule.r2, h.rule.r3, h.rule.r4, by omega, by omega, by omega, by omega⟩, h.r1, h.r2, h.r3, by omega, by omega, by omega⟩
section
variable {H : Type} {enc : TypeId × Value → H} {w : World} {base : Nat} {sp : Nat → Bool} {held : Bool}
theorem num1 {n : Nat} {t : TypeId} {c : Value} {xs : List (DataW H × List MemPlace)} {j : Nat} (hi : Tryz.prog.underlying t = some (.int .i64)) (h : DataW.trod enc Tryz.prog w base sp held n t [c] = xs[j]?) (hj : j < xs.length) : ∃ m, c = .int .i64 m := by
  obtain ⟨m, e⟩ := cells1 (k := 0) hi h (by rw [List.getElem?_eq_getElem hj]; rfl)
  exact ⟨m, by simpa using e⟩
theorem bool1 {n : Nat} {t : TypeId} {c : Value} {xs : List (DataW H × List MemPlace)} {j : Nat} (hi : Tryz.prog.underlying t = some .bool) (h : DataW.trod enc Tryz.prog w base sp held n t [c] = xs[j]?) (hj : j < xs.length) : ∃ m, c = .bool m := by
  obtain ⟨m, e, _⟩ := DataW.trod_bool hi (h.trans (List.getElem?_eq_getElem hj))
  exact ⟨m, by simpa using e⟩
theorem nums1 {n : Nat} {t e : TypeId} {c : Value} {xs : List (DataW H × List MemPlace)} {j : Nat} (ht : Tryz.prog.underlying t = some (.slice e)) (he : Tryz.prog.underlying e = some (.int .i64)) (hC : Tryz.prog.cellsOf e = 1) (h : DataW.trod enc Tryz.prog w base sp held n t [c] = xs[j]?) (hj : j < xs.length) :
    ∃ (l : List Int) (a : Option Addr) (cap : Nat), c = .slice a l.length cap ∧ Ints w a l ∧ l.length ≤ maxLen := by
  obtain ⟨l, a, cap, e, h1, h2⟩ := open_nums ht he hC (h.trans (List.getElem?_eq_getElem hj))
  exact ⟨l, a, cap, by simpa using e, h1, h2⟩
theorem turn_el (n : Nat) (cs : List Value) (y : DataW H × List MemPlace) (h : DataW.trod enc Tryz.prog w base sp held n 69 cs = some y) : ∃ x : Int × Int, cs = encT x :=
  open_two Tryz.underlying69 cells_turn rfl rfl rfl rfl cells_i64 cells_int u_i64 u_int n cs y h
theorem day_el (n : Nat) (cs : List Value) (y : DataW H × List MemPlace) (h : DataW.trod enc Tryz.prog w base sp held n 73 cs = some y) : ∃ x : Int × Int, cs = encD x :=
  open_two Tryz.underlying73 cells_day rfl rfl rfl rfl cells_int cells_int u_int u_int n cs y h
theorem change_el (n : Nat) (cs : List Value) (y : DataW H × List MemPlace) (h : DataW.trod enc Tryz.prog w base sp held n 47 cs = some y) : ∃ x : Int × Int × Int, cs = encC x :=
  open_three Tryz.underlying47 cells_change rfl rfl rfl rfl rfl rfl cells_i64 cells_i64 cells_int u_i64 u_i64 u_int n cs y h
set_option maxRecDepth 100000 in
theorem open_zone {v : Value} {d : DataW H} {ps : List MemPlace} {b0 : Nat} (hv : Value.okWide Tryz.prog w .any b0 24 v) (h : DataW.Trod enc Tryz.prog w base sp held 24 v d ps) :
    ∃ (b : Int) (ts : List (Int × Int)) (a : Option Addr) (cap : Nat), v = .agg #[.int .i64 b, .slice a ts.length cap] ∧ Row 2 encT w a ts ∧ ts.length ≤ maxLen := by
  obtain ⟨cs, rfl, hsz⟩ := okWide_struct Tryz.underlying24 hv
  obtain ⟨fuel, hf⟩ := h
  obtain ⟨xs, n', _, _, hlen, hxl, hg⟩ := DataW.trod_struct Tryz.underlying24 hf
  have hx2 : xs.length = 2 := hxl
  rw [cells_zone] at hlen
  obtain ⟨l⟩ := cs
  have hl : l.length = 2 := hlen
  match l, hl with
  | [c0, c1], _ =>
    have g0 : DataW.trod enc Tryz.prog w base sp held n' 3 [c0] = xs[0]? := fld (hg 0 _ rfl) cells_int
    have g1 : DataW.trod enc Tryz.prog w base sp held n' 22 [c1] = xs[1]? := fld (hg 1 _ rfl) cells_turns
    obtain ⟨b, rfl⟩ := num1 u_int g0 (by omega)
    obtain ⟨ts, a, cap, e, h1, h2⟩ := open_row Tryz.underlying22 cells_turn (by decide) encT turn_el (g1.trans (List.getElem?_eq_getElem (by omega)))
    simp at e
    exact ⟨b, ts, a, cap, by rw [e], h1, h2⟩
set_option maxRecDepth 100000 in
theorem open_span {v : Value} {d : DataW H} {ps : List MemPlace} {b0 : Nat} (hv : Value.okWide Tryz.prog w .any b0 34 v) (h : DataW.Trod enc Tryz.prog w base sp held 34 v d ps) :
    ∃ f t : Int, v = .agg #[.int .i64 f, .int .i64 t] := by
  obtain ⟨cs, rfl, hsz⟩ := okWide_struct Tryz.underlying34 hv
  obtain ⟨fuel, hf⟩ := h
  obtain ⟨x, e⟩ := open_two Tryz.underlying34 cells_span rfl rfl rfl rfl cells_i64 cells_i64 u_i64 u_i64 _ _ _ hf
  obtain ⟨l⟩ := cs
  exact ⟨x.1, x.2, by rw [show l = _ from e]⟩
set_option maxRecDepth 100000 in
theorem open_rule {n : Nat} {cs : List Value} {y : DataW H × List MemPlace} (h : DataW.trod enc Tryz.prog w base sp held n 28 cs = some y) :
    ∃ (r : RuleV) (a1 : Option Addr) (c1 : Nat) (a2 : Option Addr) (c2 : Nat) (a3 : Option Addr) (c3 : Nat) (a4 : Option Addr) (c4 : Nat), cs = [.int .i64 r.freq, .int .i64 r.interval, .int .i64 r.count, .int .i64 r.till, .slice a1 r.byMonth.length c1, .slice a2 r.byMonthDay.length c2, .slice a3 r.byDay.length c3, .slice a4 r.bySetPos.length c4, .int .i64 r.start] ∧ RuleIn w r a1 a2 a3 a4 := by
  obtain ⟨xs, n', _, _, hlen, hxl, hg⟩ := DataW.trod_struct Tryz.underlying28 h
  have hx2 : xs.length = 9 := hxl
  rw [cells_rule] at hlen
  match cs, hlen with
  | [c0, c1, c2, c3, c4, c5, c6, c7, c8], _ =>
    have g0 : DataW.trod enc Tryz.prog w base sp held n' 3 [c0] = xs[0]? := fld (hg 0 _ rfl) cells_int
    have g1 : DataW.trod enc Tryz.prog w base sp held n' 3 [c1] = xs[1]? := fld (hg 1 _ rfl) cells_int
    have g2 : DataW.trod enc Tryz.prog w base sp held n' 3 [c2] = xs[2]? := fld (hg 2 _ rfl) cells_int
    have g3 : DataW.trod enc Tryz.prog w base sp held n' 2 [c3] = xs[3]? := fld (hg 3 _ rfl) cells_i64
    have g4 : DataW.trod enc Tryz.prog w base sp held n' 25 [c4] = xs[4]? := fld (hg 4 _ rfl) cells_ints
    have g5 : DataW.trod enc Tryz.prog w base sp held n' 25 [c5] = xs[5]? := fld (hg 5 _ rfl) cells_ints
    have g6 : DataW.trod enc Tryz.prog w base sp held n' 26 [c6] = xs[6]? := fld (hg 6 _ rfl) cells_days
    have g7 : DataW.trod enc Tryz.prog w base sp held n' 25 [c7] = xs[7]? := fld (hg 7 _ rfl) cells_ints
    have g8 : DataW.trod enc Tryz.prog w base sp held n' 3 [c8] = xs[8]? := fld (hg 8 _ rfl) cells_int
    obtain ⟨m0, rfl⟩ := num1 u_int g0 (by omega)
    obtain ⟨m1, rfl⟩ := num1 u_int g1 (by omega)
    obtain ⟨m2, rfl⟩ := num1 u_int g2 (by omega)
    obtain ⟨m3, rfl⟩ := num1 u_i64 g3 (by omega)
    obtain ⟨l4, a4, k4, rfl, i4, j4⟩ := nums1 Tryz.underlying25 u_int cells_int g4 (by omega)
    obtain ⟨l5, a5, k5, rfl, i5, j5⟩ := nums1 Tryz.underlying25 u_int cells_int g5 (by omega)
    obtain ⟨l6, a6, k6, e, i6, j6⟩ := open_row Tryz.underlying26 cells_day (by decide) encD day_el (g6.trans (List.getElem?_eq_getElem (by omega)))
    obtain ⟨l7, a7, k7, rfl, i7, j7⟩ := nums1 Tryz.underlying25 u_int cells_int g7 (by omega)
    obtain ⟨m8, rfl⟩ := num1 u_int g8 (by omega)
    simp at e
    subst e
    exact ⟨⟨m0, m1, m2, m3, l4, l5, l6, l7, m8⟩, a4, k4, a5, k5, a6, k6, a7, k7, rfl, ⟨i4, i5, i6, i7⟩⟩
set_option maxRecDepth 100000 in
theorem open_event {v : Value} {d : DataW H} {ps : List MemPlace} {b0 : Nat} (hv : Value.okWide Tryz.prog w .any b0 32 v) (h : DataW.Trod enc Tryz.prog w base sp held 32 v d ps) :
    ∃ (e : EventV) (A : EvA), v = .agg (eventC e A) ∧ EvIn w e A := by
  obtain ⟨cs, rfl, hsz⟩ := okWide_struct Tryz.underlying32 hv
  obtain ⟨fuel, hf⟩ := h
  obtain ⟨xs, n', _, _, hlen, hxl, hg⟩ := DataW.trod_struct Tryz.underlying32 hf
  have hx2 : xs.length = 8 := hxl
  rw [cells_event] at hlen
  obtain ⟨l⟩ := cs
  have hl : l.length = 16 := hlen
  match l, hl with
  | [c0, c1, c2, c3, c4, c5, c6, c7, c8, c9, c10, c11, c12, c13, c14, c15], _ =>
    have g0 : DataW.trod enc Tryz.prog w base sp held n' 2 [c0] = xs[0]? := fld (hg 0 _ rfl) cells_i64
    have g1 : DataW.trod enc Tryz.prog w base sp held n' 3 [c1] = xs[1]? := fld (hg 1 _ rfl) cells_int
    have g2 : DataW.trod enc Tryz.prog w base sp held n' 4 [c2] = xs[2]? := fld (hg 2 _ rfl) cells_bool
    have g3 : DataW.trod enc Tryz.prog w base sp held n' 4 [c3] = xs[3]? := fld (hg 3 _ rfl) cells_bool
    have g4 : DataW.trod enc Tryz.prog w base sp held n' 28 [c4, c5, c6, c7, c8, c9, c10, c11, c12] = xs[4]? := fld (hg 4 _ rfl) cells_rule
    have g5 : DataW.trod enc Tryz.prog w base sp held n' 29 [c13] = xs[5]? := fld (hg 5 _ rfl) cells_i64s
    have g6 : DataW.trod enc Tryz.prog w base sp held n' 29 [c14] = xs[6]? := fld (hg 6 _ rfl) cells_i64s
    have g7 : DataW.trod enc Tryz.prog w base sp held n' 30 [c15] = xs[7]? := fld (hg 7 _ rfl) cells_changes
    obtain ⟨m0, rfl⟩ := num1 u_i64 g0 (by omega)
    obtain ⟨m1, rfl⟩ := num1 u_int g1 (by omega)
    obtain ⟨m2, rfl⟩ := bool1 Tryz.underlying4 g2 (by omega)
    obtain ⟨m3, rfl⟩ := bool1 Tryz.underlying4 g3 (by omega)
    obtain ⟨r, a1, k1, a2, k2, a3, k3, a4, k4, e4, i4⟩ := open_rule (g4.trans (List.getElem?_eq_getElem (by omega)))
    obtain ⟨l5, a5, k5, rfl, i5, j5⟩ := nums1 Tryz.underlying29 u_i64 cells_i64 g5 (by omega)
    obtain ⟨l6, a6, k6, rfl, i6, j6⟩ := nums1 Tryz.underlying29 u_i64 cells_i64 g6 (by omega)
    obtain ⟨l7, a7, k7, e, i7, j7⟩ := open_row Tryz.underlying30 cells_change (by decide) encC change_el (g7.trans (List.getElem?_eq_getElem (by omega)))
    simp at e
    subst e
    injection e4 with h0 e4; injection e4 with h1 e4; injection e4 with h2 e4; injection e4 with h3 e4; injection e4 with h4 e4; injection e4 with h5 e4; injection e4 with h6 e4; injection e4 with h7 e4; injection e4 with h8 e4
    subst h0 h1 h2 h3 h4 h5 h6 h7 h8
    exact ⟨⟨m0, m1, m2, m3, r, l5, l6, l7⟩, ⟨a1, k1, a2, k2, a3, k3, a4, k4, a5, k5, a6, k6, a7, k7⟩, rfl, ⟨i4, i5, i6, i7⟩⟩
end
/-- the row's last step, of a call that leaves all that lay there as it lay -/
theorem shut_kept {H : Type} {enc : TypeId × Value → H} {P : Program} {f : Func} {s : ChangeSpec} {apart fresh handsOn again : Bool} {W W' : World} {args : Array Value} {v : Value} {ds gs : List (DataW H)} {before pa pv : List MemPlace}
    (hW : DataW.Whole enc P f.params.toList s.vars apart W args.toList ds gs before)
    (hres : ∀ (b : Nat) (sp : Nat → Bool) (hd : Bool), DataW.TrodAll enc P W' b sp hd f.resultTypes.toList (v.resultList f.resultTypes.size) (s.fn H (ds ++ gs)).results [])
    (hargs : ∀ sp : Nat → Bool, (∀ p ∈ before, sp p.block = true) → DataW.TrodAll enc P W' 0 sp true f.params.toList args.toList (s.fn H (ds ++ gs)).args pa)
    (hvars : ∀ sp : Nat → Bool, (∀ p ∈ before, sp p.block = true) → DataW.TrodVars enc P W' sp s.vars (s.fn H (ds ++ gs)).vars pv)
    (hps : before = pa ++ pv) (hb : Below W.heap.size W W')
    (hok : ∀ (j : Nat) (t : TypeId) (r : Value), f.resultTypes[j]? = some t → (v.resultList f.resultTypes.size)[j]? = some r → Value.okWide P W' .any 0 t r) :
    s.post enc P f apart fresh handsOn again W args v W' := by
  have hlt := hW.lt
  have hold : ∀ p ∈ before, (fun b => decide (b < W.heap.size)) p.block = true := fun p hp => decide_eq_true (hlt p hp)
  have hall : ∀ p ∈ before, (fun _ : Nat => true) p.block = true := fun _ _ => rfl
  refine ⟨ds, gs, before, [], pa, pv, hW, hres _ _ _, hargs _ hold, hvars _ hold, World.keptBut_mono (fun p hp => ⟨hp, ?_⟩) (hb.frame (· ∈ before)), fun _ => ?_⟩
  · have h := hps ▸ hp
    exact Or.inr (List.mem_append.1 h)
  · obtain ⟨_, _, _, _, _, hz, hn⟩ := hW
    refine ⟨hok, _, _, ([] ++ pa) ++ pv, ⟨[] ++ pa, pv, trodAll_append (hargs _ hall) (hres _ _ _), hvars _ hall, rfl, fun b off hp => ?_, fun ha => ?_⟩, fun p hp _ => ?_⟩
    · have hin : MemPlace.cell b off ∈ before := by rw [hps]; simpa using hp
      exact (hb.frozen (hlt _ hin)).trans (hz b off hin)
    · have h := hn ha
      rw [hps] at h
      simpa using h
    · rw [hps]
      simpa using hp
theorem trod_again {H : Type} {enc : TypeId × Value → H} {P : Program} (hl : laidOutB P = true) {W W' : World} (hb : Below W.heap.size W W') {sp : Nat → Bool} :
    ∀ {ts : List TypeId} {vs : List Value} {ds : List (DataW H)} {ps : List MemPlace}, (∀ t ∈ ts, P.readableRec t = true ∧ t < P.types.size) → DataW.TrodAll enc P W 0 (fun _ => true) true ts vs ds ps → (∀ x ∈ ps, x.block < W.heap.size) → (∀ x ∈ ps, sp x.block = true) →
      DataW.TrodAll enc P W' 0 sp true ts vs ds ps
  | [], vs, ds, ps, _, h, _, _ => by
    obtain ⟨rfl, rfl, rfl⟩ := trodAll_nil h
    exact trodAll_mk0
  | t :: ts, vs, ds, ps, hr, h, hlt, hs => by
    obtain ⟨v, vs', d, ds', p, q, rfl, rfl, rfl, h0, h1⟩ := trodAll_cons h
    refine trodAll_cons_mk ?_ (trod_again hl hb (fun t' ht' => hr t' (List.mem_cons_of_mem _ ht')) h1 (fun x hx => hlt x (List.mem_append_right _ hx)) (fun x hx => hs x (List.mem_append_right _ hx)))
    exact WideElems.Trod_stays hl (hr t (List.mem_cons_self ..)).1 (hr t (List.mem_cons_self ..)).2 h0 (fun x hx => hb.same (hlt x (List.mem_append_left _ hx))) (fun x hx => hs x (List.mem_append_left _ hx))
end Go.Proofs.YthcngkcfopaigaaGreat
