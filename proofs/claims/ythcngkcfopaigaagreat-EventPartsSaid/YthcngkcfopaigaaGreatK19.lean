/- The walks: what an event drops of a row of times.
The walk of event.plain: the times of an event in a stretch. -/
import Derived.Test.YthcngkcfopaigaaGreatK18
import Derived.Lib.SliceRun
namespace Go.Proofs.YthcngkcfopaigaaGreat
open Go.RowKit
/-- is a time dropped? -/
def dropd (e : EventV) (x : Int) : Bool := has e.ex x || chgd e x
theorem ig_set {l : List Int} {i : Nat} (h : i < l.length) (u : Int) (t : Nat) : ig (l.set i u) t = if t = i then u else ig l t := by
  unfold ig
  rw [List.getElem?_set]
  by_cases e : i = t
  · subst e; simp [h]
  · rw [if_neg e, if_neg (fun h => e h.symm)]
theorem own_cell {w : World} {b : Nat} {e : TypeId} {g n cap : Nat} {xs : List Int} (h : Own w b e (.slice (some ⟨g, 0, none⟩) n cap) xs) {i : Nat} (hi : i < xs.length) : w.cell? ⟨g, i, none⟩ = some (.int .i64 (ig xs i)) ∧ w.frozen? ⟨g, i, none⟩ = false := by
  refine ⟨?_, ?_⟩
  · have h1 := (own_ints2 h).cell g 0 rfl i hi
    rwa [Nat.zero_add] at h1
  · rcases h.2 with ⟨h0, _⟩ | ⟨g', cap', cur, h0, hg, hh, _⟩
    · cases h0
    · cases h0; exact blk_frozen hh i
theorem own_store {w : World} {b : Nat} {e : TypeId} {g n cap : Nat} {xs : List Int} (h : Own w b e (.slice (some ⟨g, 0, none⟩) n cap) xs) {i : Nat} (u : Int) : Own (w.setCell ⟨g, i, none⟩ (.int .i64 u)) b e (.slice (some ⟨g, 0, none⟩) n cap) (xs.set i u) := by
  obtain ⟨hl, h2⟩ := h
  rcases h2 with ⟨h0, _⟩ | ⟨g', cap', cur, h0, hg, hh, h1, h2, h3, h4⟩
  · cases h0
  · cases h0
    refine ⟨by simp, .inr ⟨g, cap, _, by rw [List.length_set], hg, blk_set hh i _, by rw [List.length_set]; exact h1, h2, by simpa using h3, ?_⟩⟩
    rw [List.length_set, Array.toList_setIfInBounds, List.map_set, ← h4]
    apply List.ext_getElem?
    intro k
    by_cases hk : k < xs.length * 1
    · rw [List.getElem?_take_of_lt hk, List.getElem?_set, List.getElem?_set, List.getElem?_take_of_lt hk]
      simp only [List.length_take]
      by_cases e : i = k
      · subst e; simp; rw [if_pos (by omega), if_pos (by omega)]
      · simp [e]
    · rw [List.getElem?_take_eq_none (by omega), List.getElem?_eq_none]
      simp; omega
/-- a row cut short, what lay behind it blotted out -/
theorem own_cut {b : Nat} {e : TypeId} {g n cap i : Nat} {xs ys : List Int} (hy : ys.length = i) (hi : i ≤ xs.length) (hxy : ∀ t, t < i → ig xs t = ig ys t) : ∀ (vs : List Value) (o : Nat) (w : World), i ≤ o → Own w b e (.slice (some ⟨g, 0, none⟩) n cap) xs → Own (w.setCells g o vs) b e (.slice (some ⟨g, 0, none⟩) i cap) ys := by
  have main : ∀ (vs : List Value) (o : Nat) (w : World), i ≤ o → (∃ cur, b ≤ g ∧ w.heap[g]? = some (.cells cur e (0, 0)) ∧ cap ≤ maxLen ∧ cur.size = cap * 1 ∧ cur.toList.take i = ys.map (Value.int .i64)) → ∃ cur, b ≤ g ∧ (w.setCells g o vs).heap[g]? = some (.cells cur e (0, 0)) ∧ cap ≤ maxLen ∧ cur.size = cap * 1 ∧ cur.toList.take i = ys.map (Value.int .i64) := by
    intro vs
    induction vs with
    | nil => intro o w _ h; exact h
    | cons v vs ih =>
      rintro o w ho ⟨cur, h0, h1, h2, h3, h4⟩
      refine ih (o + 1) (w.setCell ⟨g, o, none⟩ v) (by omega) ⟨_, h0, blk_set h1 o v, h2, by simpa using h3, ?_⟩
      rw [Array.toList_setIfInBounds, List.take_set_of_le ho]
      exact h4
  intro vs o w ho h
  obtain ⟨hl, h2⟩ := h
  rcases h2 with ⟨h0, _⟩ | ⟨g', cap', cur, h0, hg, hh, h1, h2, h3, h4⟩
  · cases h0
  · cases h0
    obtain ⟨cur', c0, c1, c2, c3, c4⟩ := main vs o w ho ⟨cur, hg, hh, h2, h3, by
      have e1 : (cur.toList.take (xs.length * 1)).take i = (xs.map (Value.int .i64)).take i := by rw [h4]
      rw [List.take_take, Nat.min_eq_left (by omega), ← List.map_take] at e1
      rw [e1]
      congr 1
      apply list_ext_ig
      · simp; omega
      · intro k hk
        have hk' : k < i := by simp at hk; omega
        rw [← hxy k hk']
        unfold ig; rw [List.getElem?_take_of_lt hk']⟩
    exact ⟨by simp, .inr ⟨g, cap, cur', by rw [hy], c0, c1, by omega, c2, c3, by rw [hy, Nat.mul_one]; exact c4⟩⟩
set_option maxHeartbeats 4000000 in
theorem idxp_c (e : EventV) (A : EvA) (p : Nat) (a : Option Addr) (cap : Nat) (l : List Int) (w : World) (hE : EvBox w p e A) (he : erow e.ex = true) (hr : Ints w a l) (hbig : l.length ≤ 1000000000000) :
    Calls Tryz.prog 77 #[.slice a l.length cap, .func (.func 55) #[] #[.pointer (some ⟨p, 0, none⟩)]] w fun y w' =>
      (∃ i : Int, y = .returned (.int .i64 i) ∧ ((i = -1 ∧ ∀ j, j < l.length → dropd e (ig l j) = false) ∨ (∃ k : Nat, k < l.length ∧ i = k ∧ dropd e (ig l k) = true ∧ ∀ j, j < k → dropd e (ig l j) = false))) ∧ Below w.heap.size w w' := by
  have HE := Hid.mk hE
  clear hE
  go_enter Tryz.func77, Tryz.ntmps77
  go_wp2
  go_loopw [8] (fun i wr => ∃ k : Nat, k ≤ l.length ∧ i = .int .i64 k ∧ (∀ j, j < k → dropd e (ig l j) = false) ∧ Below w.heap.size w wr) (fun i _ => l.length - (intOf i).toNat)
  case atStart => exact ⟨0, by omega, rfl, fun j h => by omega, Below.refl _ _⟩
  case round =>
    obtain ⟨k, hk, rfl, hno, hB⟩ := hrel
    by_cases hlt : k < l.length
    · obtain ⟨b, off, rfl, hcells⟩ := (hr.below hB).ig hlt
      have c0 := hcells k hlt
      have hbz := block_lt c0
      have HC := Hid.mk (plain1_c e A (ig l k) p wr (HE.out.below hB) he)
      have HNO := Hid.mk hno
      have HD := Hid.mk (show dropd e (ig l k) = (has e.ex (ig l k) || chgd e (ig l k)) from rfl)
      rw [← HD.out] at HC
      clear hno hr hcells
      generalize hX : ig l k = X at *
      have HX := Hid.mk hX
      clear hX
      cases hv : dropd e X with
      | true =>
        rw [hv] at HC
        have HV := Hid.mk hv
        clear hv
        go_wp2_with (go_at_call 55; (refine HC.out.mono ?_); rintro e' w' ⟨rfl, hb'⟩)
        go_ret
        exact ⟨⟨k, rfl, .inr ⟨k, hlt, rfl, by rw [HX.out]; exact HV.out, HNO.out⟩⟩, bl_step hB hb'⟩
      | false =>
        rw [hv] at HC
        have HV := Hid.mk hv
        clear hv
        go_wp2_with (go_at_call 55; (refine HC.out.mono ?_); rintro e' w' ⟨rfl, hb'⟩)
        go_roundw
        case rel => exact ⟨k + 1, by omega, by go_num, fun j h => by (by_cases e : j = k; subst e; rw [HX.out]; exact HV.out; exact HNO.out j (by omega)), bl_step hB hb'⟩
        case measure => simp [intOf]; omega
    · have HNO := Hid.mk hno
      clear hno
      go_wp2
      go_ret
      exact ⟨⟨-1, rfl, .inl ⟨rfl, fun j hj => HNO.out j (by omega)⟩⟩, hB⟩
theorem below_setCells {B : Nat} {a : World} {g : Nat} (hg : B ≤ g) : ∀ (vs : List Value) (o : Nat) (w : World), Below B a w → Below B a (w.setCells g o vs)
  | [], _, _, h => h
  | v :: vs, o, w, h => below_setCells hg vs (o + 1) (w.setCell ⟨g, o, none⟩ v) (h.setCell (p := ⟨g, o, none⟩) hg v)
/-- what is kept of the first ones -/
def kepd (e : EventV) (l : List Int) (j : Nat) : List Int := (l.take j).filter (fun x => !dropd e x)
theorem kepd_le (e : EventV) (l : List Int) (j : Nat) : (kepd e l j).length ≤ j := by
  unfold kepd
  have := List.length_filter_le (fun x => !dropd e x) (l.take j)
  have := List.length_take_le j l
  omega
theorem kepd_succ (e : EventV) {l : List Int} {j : Nat} (h : j < l.length) : kepd e l (j + 1) = kepd e l j ++ (if dropd e (ig l j) then [] else [ig l j]) := by
  unfold kepd
  rw [take_snoc h, List.filter_append]
  congr 1
  by_cases g : dropd e (ig l j) = true <;> simp [g]
theorem kepd_none {e : EventV} {l : List Int} {k : Nat} (hk : k ≤ l.length) (h : ∀ j, j < k → dropd e (ig l j) = false) : kepd e l k = l.take k := by
  unfold kepd
  rw [List.filter_eq_self]
  intro x hx
  obtain ⟨j, hj, rfl⟩ := List.mem_iff_getElem.1 hx
  rw [List.length_take] at hj
  have := h j (by omega)
  rw [ig_eq (by omega)] at this
  simp [this]
theorem ig_append_left {l m : List Int} {t : Nat} (h : t < l.length) : ig (l ++ m) t = ig l t := by unfold ig; rw [List.getElem?_append_left h]
theorem ig_append_mid (l : List Int) (u : Int) : ig (l ++ [u]) l.length = u := by unfold ig; simp
theorem ig_take {l : List Int} {k t : Nat} (h : t < k) : ig (l.take k) t = ig l t := by unfold ig; rw [List.getElem?_take_of_lt h]
set_option maxRecDepth 100000 in
set_option maxHeartbeats 8000000 in
theorem del_c (w0 w : World) (e : EventV) (A : EvA) (p : Nat) (v : Value) (l : List Int) (hE : EvBox w0 p e A) (he : erow e.ex = true) (hB : Below w0.heap.size w0 w) (hown : Own w w0.heap.size 2 v l) (hbig : l.length ≤ 1000000000000) :
    Calls Tryz.prog 54 #[v, .func (.func 55) #[] #[.pointer (some ⟨p, 0, none⟩)]] w fun y w' => (∃ v', y = .returned v' ∧ Own w' w0.heap.size 2 v' (l.filter fun x => !dropd e x)) ∧ Below w0.heap.size w0 w' := by
  obtain ⟨a, cap, rfl, hi⟩ := own_ints hown
  have HE := Hid.mk hE
  have HI := Hid.mk (idxp_c e A p a cap l w (hE.below hB) he hi hbig)
  have HO := Hid.mk hown
  clear hE hi hown
  go_enter Tryz.func54, Tryz.ntmps54
  go_upto_if 12 with (go_at_call 77; (refine HI.out.mono ?_); rintro e' w1 ⟨⟨i, rfl, hc⟩, hb1⟩)
  rcases hc with ⟨rfl, hno⟩ | ⟨k, hk, rfl, hd, hno⟩
  · have HN : Hid (l.filter (fun x => !dropd e x) = l) := Hid.mk (by
      have := kepd_none (Nat.le_refl l.length) hno
      unfold kepd at this
      rwa [List.take_length] at this)
    clear hno
    go_wp2
    go_ret
    exact ⟨⟨_, rfl, by rw [HN.out]; exact own_below HO.out hb1⟩, bl_step hB hb1⟩
  · have hne : ((k : Int) == -1) = false := beq_eq_false_iff_ne.2 (by omega)
    obtain ⟨g, rfl, hcap, hg⟩ : ∃ g, a = some ⟨g, 0, none⟩ ∧ l.length ≤ cap ∧ w0.heap.size ≤ g := by
      rcases HO.out.2 with ⟨h0, h1⟩ | ⟨g, cap', cur, h0, h2, _, h1, _⟩
      · omega
      · cases h0; exact ⟨g, rfl, h1, h2⟩
    have hO1 := own_below HO.out hb1
    have hB1 := bl_step hB hb1
    have hk0 := kepd_none (Nat.le_of_lt hk) hno
    have hk1 := kepd_succ e hk
    rw [hd, hk0] at hk1
    simp only [if_true, List.append_nil] at hk1
    have HK1 := Hid.mk hk1
    have HO1 := Hid.mk hO1
    clear hk0 hk1 hno hd hO1 hb1 HI
    go_wp2
    go_loopw [5, 6, 7] (fun si sj _ wr => ∃ (j : Nat) (dk : List Int), k < j ∧ j ≤ l.length ∧ sj = .int .i64 j ∧ si = .int .i64 ((kepd e l j).length : Int) ∧ (kepd e l j).length < j ∧ dk.length = l.length ∧ Own wr w0.heap.size 2 (.slice (some ⟨g, 0, none⟩) l.length cap) dk ∧ (∀ t, t < (kepd e l j).length → ig dk t = ig (kepd e l j) t) ∧ (∀ t, j ≤ t → t < l.length → ig dk t = ig l t) ∧ Below w0.heap.size w0 wr) (fun _ sj _ _ => l.length - (intOf sj).toNat)
    case atStart =>
      refine ⟨k + 1, l, by omega, by omega, by go_num, ?_, ?_, rfl, HO1.out, fun t ht => ?_, fun t _ _ => rfl, hB1⟩
      · rw [HK1.out, List.length_take, Nat.min_eq_left (by omega)]
      · rw [HK1.out, List.length_take]; omega
      · rw [HK1.out] at ht ⊢
        rw [List.length_take] at ht
        rw [ig_take (by omega)]
    case round =>
      obtain ⟨j, dk, hkj, hj, rfl, rfl, hlt0, hlen, ho, h1, h2, hBr⟩ := hrel
      have H1 := Hid.mk h1
      have H2 := Hid.mk h2
      have HLEN := Hid.mk hlen
      have HOO := Hid.mk ho
      have HKE := Hid.mk (show kepd e l j = kepd e l j from rfl)
      clear h1 h2
      by_cases hlt : j < l.length
      · have c0 := (own_cell ho (i := j) (by rw [HLEN.out]; exact hlt)).1
        rw [H2.out j (Nat.le_refl _) hlt] at c0
        have HS := Hid.mk (kepd_succ e hlt)
        have HC := Hid.mk (plain1_c e A (ig l j) p wr (HE.out.below hBr) he)
        have HD := Hid.mk (show dropd e (ig l j) = (has e.ex (ig l j) || chgd e (ig l j)) from rfl)
        rw [← HD.out] at HC
        have hbz := block_lt c0
        clear ho hlen
        generalize ig l j = X at *
        generalize hK : kepd e l j = K at *
        have HKK := Hid.mk hK
        clear hK HKE
        cases hv : dropd e X with
        | true =>
          rw [hv] at HC
          have HV := Hid.mk hv
          clear hv
          have HSS : Hid (kepd e l (j + 1) = K) := Hid.mk (by rw [HS.out, HV.out]; simp)
          go_wp2_with (go_at_call 55; (refine HC.out.mono ?_); rintro e' w' ⟨rfl, hb'⟩)
          go_roundw
          case rel =>
            (repeat apply Exists.intro)
            refine ⟨?_, rfl⟩
            exact ⟨j + 1, dk, by omega, by omega, by go_num, by rw [HSS.out], by rw [HSS.out]; omega, HLEN.out, own_below HOO.out hb', by rw [HSS.out]; exact H1.out, fun t ht1 ht2 => H2.out t (by omega) ht2, bl_step hBr hb'⟩
          case measure => simp [intOf]; omega
        | false =>
          rw [hv] at HC
          have HV := Hid.mk hv
          clear hv
          have HSS : Hid (kepd e l (j + 1) = K ++ [X]) := Hid.mk (by rw [HS.out, HV.out]; simp)
          go_wp2_with (go_at_call 55; (refine HC.out.mono ?_); rintro e' w' ⟨rfl, hb'⟩; obtain ⟨u0, u1⟩ := own_cell (own_below HOO.out hb') (i := K.length) (by rw [HLEN.out]; omega))
          go_roundw
          case rel =>
            (repeat apply Exists.intro)
            refine ⟨?_, rfl⟩
            refine ⟨j + 1, dk.set K.length X, by omega, by omega, by go_num, by rw [HSS.out, List.length_append]; go_num, by rw [HSS.out, List.length_append, List.length_singleton]; omega, by rw [List.length_set]; exact HLEN.out, own_store (own_below HOO.out hb') X, fun t ht => ?_, fun t ht1 ht2 => ?_, ?_⟩
            · rw [HSS.out] at ht ⊢
              rw [ig_set (by rw [HLEN.out]; omega)]
              rw [List.length_append, List.length_singleton] at ht
              by_cases e1 : t = K.length
              · subst e1; rw [if_pos rfl, ig_append_mid]
              · rw [if_neg e1, ig_append_left (by omega)]; exact H1.out t (by omega)
            · rw [ig_set (by rw [HLEN.out]; omega), if_neg (by omega)]
              exact H2.out t (by omega) ht2
            · exact (bl_step hBr hb').setCell (p := ⟨g, K.length, none⟩) hg _
          case measure => simp [intOf]; omega
      · obtain rfl : j = l.length := by omega
        have hcell := fun t (ht : t < l.length) => own_cell HOO.out (i := t) (by rw [HLEN.out]; exact ht)
        have hfil : l.filter (fun x => !dropd e x) = kepd e l l.length := by unfold kepd; rw [List.take_length]
        have HFI := Hid.mk hfil
        clear hfil HKE
        generalize hK : kepd e l l.length = K at *
        clear hK
        have hcl : ∀ ty, (Builtin.clear_ #[29] ty #[.slice (some ⟨g, K.length, none⟩) (l.length - K.length) (cap - K.length)]).run Tryz.prog wr = .ok (.tuple #[]) (wr.setCells g K.length (List.replicate (l.length - K.length) (.int .i64 0))) :=
          fun ty => Lib.run_clear_slice wr _ _ ty _ Tryz.underlying29 Tryz.zeroValue2 rfl rfl g K.length _ _ (by omega) (fun t ht => by rw [(hcell (K.length + t) (by omega)).1]; rfl) (fun t ht => (hcell (K.length + t) (by omega)).2)
        clear hcell ho hlen
        go_wp2
        go_ret
        refine ⟨⟨_, rfl, by rw [HFI.out]; exact own_cut rfl (by rw [HLEN.out]; omega) H1.out _ _ _ (Nat.le_refl _) HOO.out⟩, ?_⟩
        exact below_setCells hg _ _ _ hBr
end Go.Proofs.YthcngkcfopaigaaGreat

namespace Go.Proofs.YthcngkcfopaigaaGreat
open Go.RowKit
def ptimes (e : EventV) (f t : Int) : List Int := daysIn (etime e) f t
theorem ptimes_again {e : EventV} (ha : e.again = true) (_hm : emay e = true) (f t : Int) :
    (icomp (isort (betw e.rule e.start f t ++ e.plus.filter (fun x => decide (f ≤ x) && decide (x < t))))).filter (fun x => !dropd e x) = ptimes e f t := by
  apply sorted_ext
  · exact (icomp_sorted (isort_sorted _)).filter _
  · exact daysIn_sorted _ _ _
  intro x
  simp only [List.mem_filter, icomp_mem, isort_mem, List.mem_append, betw_mem, ptimes, mem_daysIn, etime, etime0, ha, if_true, Bool.and_eq_true, decide_eq_true_eq, Bool.not_eq_true', Bool.or_eq_true, has_iff, dropd, Bool.or_eq_false_iff, Bool.true_and]
  constructor
  · rintro ⟨h1, h2, h3⟩
    rcases h1 with ⟨h1, h4, h5⟩ | ⟨h1, h4, h5⟩
    · exact ⟨h4, h5, ⟨h2, .inr h1⟩, h3⟩
    · exact ⟨h4, h5, ⟨h2, .inl h1⟩, h3⟩
  · rintro ⟨h1, h2, ⟨h3, h4⟩, h5⟩
    rcases h4 with h4 | h4
    · exact ⟨.inr ⟨h4, h1, h2⟩, h3, h5⟩
    · exact ⟨.inl ⟨h4, h1, h2⟩, h3, h5⟩
theorem ptimes_once {e : EventV} (ha : e.again = false) (f t : Int) : ptimes e f t = if f ≤ e.start ∧ e.start < t then [e.start] else [] := by
  apply sorted_ext
  · exact daysIn_sorted _ _ _
  · split <;> simp
  intro x
  simp only [ptimes, mem_daysIn, etime, etime0, ha, Bool.false_and, Bool.not_false, Bool.and_true, Bool.false_eq_true, if_false, decide_eq_true_eq]
  split
  · rename_i h; simp only [List.mem_singleton]
    exact ⟨fun h1 => h1.2.2, fun h1 => by subst h1; exact ⟨h.1, h.2, rfl⟩⟩
  · rename_i h
    simp only [List.not_mem_nil, iff_false]
    rintro ⟨h1, h2, h3⟩
    subst h3; exact h ⟨h1, h2⟩
theorem own_one (w : World) (e : TypeId) (n : Int) : Own (w.alloc (.cells #[.int .i64 n] e)) w.heap.size e (.slice (some ⟨w.heap.size, 0, none⟩) 1 1) [n] :=
  ⟨rfl, .inr ⟨w.heap.size, 1, _, rfl, Nat.le_refl _, blk_new _ _, Nat.le_refl _, by decide, rfl, rfl⟩⟩
theorem ig_filter_snoc {l : List Int} {p : Int → Bool} {k : Nat} (h : k < l.length) : (l.take (k + 1)).filter p = (l.take k).filter p ++ (if p (ig l k) then [ig l k] else []) := by
  rw [take_snoc h, List.filter_append]
  congr 1
  by_cases g : p (ig l k) = true <;> simp [g]
set_option maxRecDepth 100000 in
set_option maxHeartbeats 8000000 in
theorem plain_once (e : EventV) (A : EvA) (f t : Int) (w : World) (_hr : EvAt w e A) (ha : e.again = false) :
    Calls Tryz.prog 30 #[.agg (eventC e A), .int .i64 f, .int .i64 t] w fun y w' => (∃ v, y = .returned v ∧ Own w' w.heap.size 2 v (ptimes e f t)) ∧ Below w.heap.size w w' := by
  have HP := Hid.mk (ptimes_once ha f t)
  clear _hr
  have hc : e.start < f ∨ (f ≤ e.start ∧ t ≤ e.start) ∨ (f ≤ e.start ∧ e.start < t) := by omega
  rcases hc with h | ⟨h, h2⟩ | ⟨h, h2⟩
  · have HQ : Hid (ptimes e f t = []) := Hid.mk (by rw [HP.out, if_neg (by omega)])
    have t1 := decide_eq_true h
    go_enter Tryz.func30, Tryz.ntmps30
    try dsimp only [List.append]
    go_wp2
    go_ret
    exact ⟨⟨_, rfl, by rw [HQ.out]; exact own_nil _ _ _⟩, blw⟩
  · have HQ : Hid (ptimes e f t = []) := Hid.mk (by rw [HP.out, if_neg (by omega)])
    have t1 : decide (e.start < f) = false := decide_eq_false (by omega)
    have t2 := decide_eq_true h2
    go_enter Tryz.func30, Tryz.ntmps30
    try dsimp only [List.append]
    go_wp2
    go_ret
    exact ⟨⟨_, rfl, by rw [HQ.out]; exact own_nil _ _ _⟩, blw⟩
  · have HQ : Hid (ptimes e f t = [e.start]) := Hid.mk (by rw [HP.out, if_pos ⟨h, h2⟩])
    have t1 : decide (e.start < f) = false := decide_eq_false (by omega)
    have t2 : decide (t ≤ e.start) = false := decide_eq_false (by omega)
    go_enter Tryz.func30, Tryz.ntmps30
    try dsimp only [List.append]
    go_wp2
    go_ret
    refine ⟨⟨_, rfl, ?_⟩, blw⟩
    rw [HQ.out]
    have h3 := own_one (w.alloc (.cells (eventC e A) 32)) 2 e.start
    rw [World.size_alloc] at h3
    exact own_base h3 (by omega)
set_option maxRecDepth 100000 in
set_option maxHeartbeats 8000000 in
theorem plain_again (e : EventV) (A : EvA) (f t : Int) (w : World) (hr : EvAt w e A) (ha : e.again = true) (hm : emay e = true) (hft : f < t) (hf : -10000000000000 ≤ f) (ht : t ≤ 10000000000000) :
    Calls Tryz.prog 30 #[.agg (eventC e A), .int .i64 f, .int .i64 t] w fun y w' => (∃ v, y = .returned v ∧ Own w' w.heap.size 2 v (ptimes e f t)) ∧ Below w.heap.size w w' := by
  have hmf : ∀ (fn : Fn) (first cap : Array Value) (w : World), (Instr.makeFunc fn first cap).run Tryz.prog w = .ok (.func fn first cap) w := fun _ _ _ _ => rfl
  have HP := Hid.mk (ptimes_again ha hm f t)
  obtain ⟨_, _, _, _, _, _, he1, he2, _⟩ := emay_again hm ha
  have hl2 := (erow_iff.1 he2).2
  have hbl := betw_length (r := e.rule) (st := e.start) hft
  have HBT := Hid.mk (between_c (w.alloc (.cells (eventC e A) 32)) e.rule A.a1 A.c1 A.a2 A.c2 A.a3 A.c3 A.a4 A.c4 e.start f t ((t - f) / 1440 + 1) (hr.rule.below (bl_alloc (Below.refl _ _) _)) hbl)
  unfold BtPost at HBT
  have hbl2 : (betw e.rule e.start f t).length ≤ 20000000000 := by omega
  have HE : Hid (EvBox (w.alloc (.cells (eventC e A) 32)) w.heap.size e A) := Hid.mk ⟨fun i v h => blk_cell (blk_new w _) i h, hr.below (bl_alloc (Below.refl _ _) _)⟩
  have HR2 := Hid.mk (hr.r2.below (bl_alloc (Below.refl _ _) (.cells (eventC e A) 32)))
  generalize betw e.rule e.start f t = bt at *
  have HA := Hid.mk ha
  have HE1 := Hid.mk he1
  have hb2 := hr.b2
  clear ha hm hr he1 he2
  go_enter Tryz.func30, Tryz.ntmps30
  try dsimp only [List.append]
  have ha := HA.out
  go_wp2_with (go_at_call 51; (refine HBT.out.mono ?_); rintro e' w1 ⟨v, rfl, ho, hb1⟩; have u1 := box_get hb1 14 rfl; have u2 := box_get hb1 13 rfl; have hO := Hid.mk ho; clear ho)
  clear u1 u2
  have HSZ := Hid.mk (World.size_alloc w (.cells (eventC e A) 32))
  have hO' := hO.out
  rw [HSZ.out] at hO'
  have HO' := Hid.mk hO'
  clear hO hO'
  generalize A.e2 = a2 at HR2 ⊢
  go_loopw [7, 45] (fun sv si wr => ∃ k : Nat, k ≤ e.plus.length ∧ si = .int .i64 k ∧ Own wr (w.heap.size + 1) 2 sv (bt ++ (e.plus.take k).filter (fun x => decide (f ≤ x) && decide (x < t))) ∧ Below (w.alloc (.cells (eventC e A) 32)).heap.size (w.alloc (.cells (eventC e A) 32)) wr) (fun _ si _ => e.plus.length - (intOf si).toNat)
  case atStart => exact ⟨0, by omega, rfl, by simpa using HO'.out, hb1⟩
  case round =>
    obtain ⟨k, hk, rfl, ho, hB⟩ := hrel
    have hsz := hB.size
    rw [World.size_alloc] at hsz
    by_cases hlt : k < e.plus.length
    · obtain ⟨b, off, rfl, hcells⟩ := (HR2.out.below hB).ig hlt
      have c0 := hcells k hlt
      have hbz := block_lt c0
      have HS := Hid.mk (ig_filter_snoc (p := fun x => decide (f ≤ x) && decide (x < t)) hlt)
      have HO := Hid.mk ho
      have hln : ((e.plus.take k).filter (fun x => decide (f ≤ x) && decide (x < t))).length ≤ k := by
        have h1 := List.length_filter_le (fun x => decide (f ≤ x) && decide (x < t)) (e.plus.take k)
        have h2 := List.length_take_le k e.plus
        omega
      clear ho hcells
      generalize hK : (e.plus.take k).filter (fun x => decide (f ≤ x) && decide (x < t)) = ys at *
      have HK := Hid.mk hK
      clear hK
      generalize ig e.plus k = X at *
      have hc : (X < f) ∨ (f ≤ X ∧ t ≤ X) ∨ (f ≤ X ∧ X < t) := by omega
      rcases hc with h | ⟨h, h2⟩ | ⟨h, h2⟩
      · have t1 : decide (f ≤ X) = false := decide_eq_false (by omega)
        have HSS : Hid ((e.plus.take (k + 1)).filter (fun x => decide (f ≤ x) && decide (x < t)) = ys) := Hid.mk (by rw [HS.out, t1]; simp)
        go_wp2
        go_roundw
        case rel => exact ⟨k + 1, by omega, by go_num, by rw [HSS.out]; exact HO.out, hB⟩
        case measure => simp [intOf]; omega
      · have t1 : decide (f ≤ X) = true := decide_eq_true h
        have t2 : decide (X < t) = false := decide_eq_false (by omega)
        have HSS : Hid ((e.plus.take (k + 1)).filter (fun x => decide (f ≤ x) && decide (x < t)) = ys) := Hid.mk (by rw [HS.out, t1, t2]; simp)
        go_wp2
        go_roundw
        case rel => exact ⟨k + 1, by omega, by go_num, by rw [HSS.out]; exact HO.out, hB⟩
        case measure => simp [intOf]; omega
      · have t1 : decide (f ≤ X) = true := decide_eq_true h
        have t2 : decide (X < t) = true := decide_eq_true h2
        have HSS : Hid ((e.plus.take (k + 1)).filter (fun x => decide (f ≤ x) && decide (x < t)) = ys ++ [X]) := Hid.mk (by rw [HS.out, t1, t2]; simp)
        go_wp2_with (at_builtin; refine own_append info_i64 Tryz.underlying29 rfl _ _ rfl (w.heap.size + 1) _ (bt ++ ys) X _ rfl ?c1 rfl ?c2 ?c3 ?c4 ?_)
        case c1 => exact HO.out.alloc _
        case c3 => (try rw [List.length_append]); omega
        case c4 => (try simp); omega
        intro v' w4 ho4 hb4
        rw [← HSZ.out] at hb4
        have hz4 := (bl_alloc (a := w.alloc (.cells (eventC e A) 32)) hB (.cells #[.int .i64 X] 2)).trans hb4
        rw [HSZ.out] at hb4
        go_wp2
        go_roundw
        case rel => exact ⟨k + 1, by omega, by go_num, by rw [HSS.out, ← List.append_assoc]; first | exact ho4 | (rw [← List.append_assoc] at ho4; exact ho4), hz4⟩
        case measure => simp [intOf]; omega
    · obtain rfl : k = e.plus.length := by omega
      rw [List.take_length] at ho
      have hlen : (bt ++ e.plus.filter (fun x => decide (f ≤ x) && decide (x < t))).length ≤ 1000000000000 := by
        rw [List.length_append]
        have h1 := List.length_filter_le (fun x => decide (f ≤ x) && decide (x < t)) e.plus
        omega
      have HL := Hid.mk hlen
      rw [← HSZ.out] at ho
      have HS := Hid.mk (sort_c _ wr _ _ hB ho hlen)
      clear ho hlen
      generalize bt ++ e.plus.filter (fun x => decide (f ≤ x) && decide (x < t)) = l at *
      have hl1 := isort_length l
      have HL1 := Hid.mk (show (isort l).length ≤ 1000000000000 by rw [hl1]; exact HL.out)
      have HL2 := Hid.mk (show (icomp (isort l)).length ≤ 1000000000000 by have := icomp_length (isort l); have := HL1.out; omega)
      clear hl1
      go_wp2_with (first | (go_at_call 52; (refine HS.out.mono ?_); rintro e' w2 ⟨rfl, ho2, hb2⟩; have hO2 := Hid.mk ho2; clear ho2) | (go_at_call 53; (refine (compact_c _ w2 _ _ hb2 hO2.out HL1.out).mono ?_); rintro e' w3 ⟨⟨v3, rfl, ho3⟩, hb3⟩; have hO3 := Hid.mk ho3; clear ho3) | (go_at_call 54; (refine (del_c _ w3 e A w.heap.size _ _ HE.out HE1.out hb3 hO3.out HL2.out).mono ?_); rintro e' w4 ⟨⟨v4, rfl, ho4⟩, hb4⟩; have hO4 := Hid.mk ho4; clear ho4))
      go_ret
      refine ⟨⟨_, rfl, ?_⟩, bl_step (a := w) (bl_alloc (Below.refl _ _) _) hb4⟩
      rw [← HP.out]
      exact own_base hO4.out (by simp)
theorem plain_c (e : EventV) (A : EvA) (f t : Int) (w : World) (hr : EvAt w e A) (hm : emay e = true) (hft : f < t) (hf : -10000000000000 ≤ f) (ht : t ≤ 10000000000000) :
    Calls Tryz.prog 30 #[.agg (eventC e A), .int .i64 f, .int .i64 t] w fun y w' => (∃ v, y = .returned v ∧ Own w' w.heap.size 2 v (ptimes e f t)) ∧ Below w.heap.size w w' := by
  cases ha : e.again with
  | false => exact plain_once e A f t w hr ha
  | true => exact plain_again e A f t w hr ha hm hft hf ht
end Go.Proofs.YthcngkcfopaigaaGreat
