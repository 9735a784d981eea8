/- The walks: how spans are compared; the library's sort of spans.
The walk of event.Members.
The walk of event.Members: the members.
The walk of event.Members: the members of an event with local times. -/
import Derived.Test.YthcngkcfopaigaaGreatK21
import Derived.Deep.DrawnRows
import Derived.Test.YthcngkcfopaigaaGreatK6
namespace Go.Proofs.YthcngkcfopaigaaGreat
open Go.RowKit Go.Sort
attribute [local go_sem ↓] Go.wp_at_zero Go.wp_at_succ
def spanCmp (x y : Int × Int) : Int := if cmpI x.1 y.1 = 0 then cmpI x.2 y.2 else cmpI x.1 y.1
theorem cmpI_range (a b : Int) : -1 ≤ cmpI a b ∧ cmpI a b ≤ 1 := by unfold cmpI; split <;> (try split) <;> omega
set_option maxHeartbeats 2000000 in
theorem or_c (b : Nat) (x y : Int) (w : World) (h0 : w.cell? ⟨b, 0, none⟩ = some (.int .i64 x)) (h1 : w.cell? ⟨b, 1, none⟩ = some (.int .i64 y)) :
    Calls Tryz.prog 34 #[.slice (some ⟨b, 0, none⟩) 2 2] w fun e w' => e = .returned (.int .i64 (if x = 0 then y else x)) ∧ w = w' := by
  have hb := block_lt h0
  by_cases hx : x = 0
  · have e1 : (x != 0) = false := by simpa using hx
    have HX : Hid ((if x = 0 then y else x) = y) := Hid.mk (if_pos hx)
    generalize (if x = 0 then y else x) = v at *
    clear hx
    by_cases hy : y = 0
    · have e2 : (y != 0) = false := by simpa using hy
      have HY := Hid.mk hy
      clear hy
      go_enter Tryz.func34, Tryz.ntmps34
      go_wp2
      go_loop [8] (fun i => ∃ k : Nat, k ≤ 2 ∧ i = .int .i64 k) (fun i => 2 - (intOf i).toNat)
      case atStart => exact ⟨0, by omega, rfl⟩
      case round =>
        obtain ⟨k, hk, rfl⟩ := hrel
        have hc : k = 0 ∨ k = 1 ∨ k = 2 := by omega
        rcases hc with rfl | rfl | rfl
        · go_wp2
          go_round
          case rel => exact ⟨1, by omega, by go_num⟩
          case measure => simp [intOf]
        · go_wp2
          go_round
          case rel => exact ⟨2, by omega, by go_num⟩
          case measure => simp [intOf]
        · go_wp2
          go_ret
          exact ⟨ret_int (by rw [HX.out, HY.out]), rfl⟩
    · have e2 : (y != 0) = true := by simpa using hy
      go_enter Tryz.func34, Tryz.ntmps34
      go_wp2
      go_loop [8] (fun i => ∃ k : Nat, k ≤ 1 ∧ i = .int .i64 k) (fun i => 2 - (intOf i).toNat)
      case atStart => exact ⟨0, by omega, rfl⟩
      case round =>
        obtain ⟨k, hk, rfl⟩ := hrel
        have hc : k = 0 ∨ k = 1 := by omega
        rcases hc with rfl | rfl
        · go_wp2
          go_round
          case rel => exact ⟨1, by omega, by go_num⟩
          case measure => simp [intOf]
        · go_wp2
          go_ret
          exact ⟨ret_int HX.out.symm, rfl⟩
  · have e1 : (x != 0) = true := by simpa using hx
    have HX : Hid ((if x = 0 then y else x) = x) := Hid.mk (if_neg hx)
    generalize (if x = 0 then y else x) = v at *
    go_enter Tryz.func34, Tryz.ntmps34
    go_wp2
    go_loop [8] (fun i => i = .int .i64 0) (fun i => 2 - (intOf i).toNat)
    case atStart => exact rfl
    case round =>
      obtain rfl := hrel
      go_wp2
      go_ret
      exact ⟨ret_int HX.out.symm, rfl⟩
set_option maxHeartbeats 4000000 in
theorem scmp_c (x y : Int × Int) (W : World) : Calls Tryz.prog 33 #[.agg #[.int .i64 x.1, .int .i64 x.2], .agg #[.int .i64 y.1, .int .i64 y.2]] W fun e w' => e = .returned (.int .i64 (spanCmp x y)) ∧ ∃ q os', w' = grow (W.drewN q) os' := by
  obtain ⟨x1, x2⟩ := x
  obtain ⟨y1, y2⟩ := y
  have HC1 := Hid.mk (fun w => compare_c x1 y1 w)
  have HC2 := Hid.mk (fun w => compare_c x2 y2 w)
  have HS := Hid.mk (show spanCmp (x1, x2) (y1, y2) = if cmpI x1 y1 = 0 then cmpI x2 y2 else cmpI x1 y1 from rfl)
  generalize cmpI x1 y1 = c1 at *
  generalize cmpI x2 y2 = c2 at *
  have HO := Hid.mk (fun b w h0 h1 => or_c b c1 c2 w h0 h1)
  rw [← HS.out] at HO
  generalize spanCmp (x1, x2) (y1, y2) = v at *
  go_enter Tryz.func33, Tryz.ntmps33
  go_wp2
  go_region_held3 (fun w' => w'.cell? ⟨W.heap.size, 0, none⟩ = some (.int .i64 x1) ∧ w'.cell? ⟨W.heap.size, 1, none⟩ = some (.int .i64 x2) ∧ w'.cell? ⟨W.heap.size + 1, 0, none⟩ = some (.int .i64 y1) ∧ w'.cell? ⟨W.heap.size + 1, 1, none⟩ = some (.int .i64 y2)) (go_keep) (first | (go_at_call 35; (with_reducible refine (HC1.out _).mono ?_); rintro e w' ⟨rfl, rfl⟩) | (go_at_call 35; (with_reducible refine (HC2.out _).mono ?_); rintro e w' ⟨rfl, rfl⟩) | (go_at_call 34; refine (HO.out _ _ ?_ ?_).mono ?_; simp [go_sem]; simp [go_sem]; rintro e w' ⟨rfl, rfl⟩))
  all_goals
    go_wp2
    go_ret
    exact ⟨rfl, 1, _, by rw [alloc_eq_grow, alloc_eq_grow, alloc_eq_grow, grow_grow, grow_grow]; rfl⟩
theorem spanCmp_neg (x y : Int × Int) : spanCmp x y < 0 ↔ x.1 < y.1 ∨ (x.1 = y.1 ∧ x.2 < y.2) := by
  unfold spanCmp
  have h1 := cmpI_neg x.1 y.1
  have h2 := cmpI_neg x.2 y.2
  have h3 := cmpI_zero x.1 y.1
  split
  · rename_i h; have := h3.1 h; omega
  · rename_i h; have : x.1 ≠ y.1 := fun e => h (h3.2 e); omega
def spanLe (x y : Int × Int) : Bool := decide (x.1 < y.1) || (decide (x.1 = y.1) && decide (x.2 ≤ y.2))
theorem spanLe_iff (x y : Int × Int) : spanLe x y = true ↔ x.1 < y.1 ∨ (x.1 = y.1 ∧ x.2 ≤ y.2) := by simp [spanLe]
theorem lt_le (x y : Int × Int) : (!(ltOf spanCmp y x)) = spanLe x y := by
  rw [Bool.eq_iff_iff, spanLe_iff]
  have := spanCmp_neg y x
  simp only [ltOf, Bool.not_eq_true', decide_eq_false_iff_not]
  rw [this]; omega
def ssort (l : List (Int × Int)) : List (Int × Int) := l.mergeSort spanLe
theorem ssort_eq (l : List (Int × Int)) : (l.mergeSort fun x y => !(ltOf spanCmp) y x) = ssort l := by
  unfold ssort
  congr 1
  funext x y; exact lt_le x y
theorem ssort_length (l : List (Int × Int)) : (ssort l).length = l.length := List.length_mergeSort l
theorem ssort_perm (l : List (Int × Int)) : (ssort l).Perm l := List.mergeSort_perm l _
theorem ssort_sorted (l : List (Int × Int)) : (ssort l).Pairwise (fun x y => spanLe x y = true) :=
  List.pairwise_mergeSort (le := spanLe) (by intro a b c h1 h2; rw [spanLe_iff] at *; omega) (by intro a b; rw [Bool.or_eq_true, spanLe_iff, spanLe_iff]; omega) l
theorem spanLe_antisymm {x y : Int × Int} (h1 : spanLe x y = true) (h2 : spanLe y x = true) : x = y := by
  rw [spanLe_iff] at *
  exact Prod.ext (by omega) (by omega)
theorem ltOf_span (x y : Int × Int) : ltOf spanCmp x y = true ↔ x.1 < y.1 ∨ (x.1 = y.1 ∧ x.2 < y.2) := by simp only [ltOf, decide_eq_true_eq, spanCmp_neg]
theorem ltOf_span_no (x y : Int × Int) : ltOf spanCmp x y = false ↔ ¬ (x.1 < y.1 ∨ (x.1 = y.1 ∧ x.2 < y.2)) := by simp only [ltOf, decide_eq_false_iff_not, spanCmp_neg]
theorem span_swo : SWO (ltOf spanCmp) := by
  refine ⟨?_, ?_, ?_⟩
  · intro x; rw [ltOf_span_no]; omega
  · intro x y z h1 h2; rw [ltOf_span] at *; omega
  · intro x y z h1 h2; rw [ltOf_span_no] at *; omega
theorem span_tot (x y : Int × Int) (h1 : ltOf spanCmp x y = false) (h2 : ltOf spanCmp y x = false) : x = y := by
  rw [ltOf_span_no] at *
  exact Prod.ext (by omega) (by omega)
theorem scmp_lays (blk off size : Nat) (w : World) : CmpLays Tryz.prog 33 #[] encT 2 spanCmp blk off size w :=
  fun _ _ _ _ x y => scmp_c x y _
theorem flatK_eq (xs : List (Int × Int)) : flatK encT 2 xs.toArray = (flatS xs).toArray := by
  apply Array.ext
  · simp [flatS_length]
  · intro t h1 h2
    have h3 : t < xs.length * 2 := by simpa using h1
    have h4 := get_flatK encT 2 xs.toArray t (by simpa using h3)
    rw [getElem!_pos (flatK encT 2 xs.toArray) t h1] at h4
    rw [h4]
    have hx : xs[t / 2]? = some xs[t / 2] := List.getElem?_eq_getElem (by omega)
    have hd : xs.toArray[t / 2]! = xs[t / 2] := by rw [getElem!_pos xs.toArray (t / 2) (by simp; omega)]; simp
    rw [hd]
    have hm : t % 2 < (encT xs[t / 2]).length := by simp [encT]; omega
    rw [getElem!_pos (encT xs[t / 2]) (t % 2) hm]
    have h5 := flatS_get xs (t / 2) _ hx (t % 2) _ (List.getElem?_eq_getElem hm)
    rw [show t / 2 * 2 + t % 2 = t by omega] at h5
    have h6 : (flatS xs)[t]? = some ((flatS xs)[t]'(by rw [flatS_length]; exact h3)) := List.getElem?_eq_getElem _
    rw [h6] at h5
    simpa using (Option.some.inj h5).symm
theorem heap_sortedK {w : World} {g n : Nat} {os : Array Obj} {cur : Array Value} {e : TypeId} {fr : Nat × Nat} (d : Array Value) (hb : w.heap[g]? = some (.cells cur e fr)) :
    (grow (putRow id (Sort.ahead w n) g 0 d) os).heap[g]? = some (.cells (putCells id 0 d cur) e fr) := by
  have hg : g < w.heap.size := (Array.getElem?_eq_some_iff.1 hb).1
  rw [heap_grow_old _ _ (by simpa using hg)]
  simp [putRow, mapBlock, Sort.ahead, Array.getElem?_modify, hb, onCells]
theorem grownBy_sortedK {w : World} {g n : Nat} {os : Array Obj} (d : Array Value) : w.grownBy (grow (putRow id (Sort.ahead w n) g 0 d) os) (some g) := by
  refine ⟨rfl, rfl, rfl, by simp, fun k hk hne => ?_⟩
  rw [heap_grow_old _ _ (by simpa using hk)]
  have : g ≠ k := fun e => hne (by rw [e])
  simp [putRow, mapBlock, Sort.ahead, Array.getElem?_modify, this]
theorem take_putCellsK (cur : Array Value) (ts : List Value) (h : ts.length ≤ cur.size) : (putCells id 0 ts.toArray cur).toList.take ts.length = ts := by
  apply List.ext_getElem?
  intro j
  by_cases hj : j < ts.length
  · rw [List.getElem?_take_of_lt hj, Array.getElem?_toList]
    simp [putCells, hj, show j < cur.size by omega]
  · rw [List.getElem?_take_eq_none (by omega), List.getElem?_eq_none (by omega)]
theorem ssort_c (w0 w : World) (v : Value) (l : List (Int × Int)) (hB : Below w0.heap.size w0 w) (hown : OwnS w w0.heap.size v l) (hl : l.length ≤ 1000000000000) :
    Calls Tryz.prog 32 #[v, .func (.func 33) #[] #[]] w fun e w' => e = .returned (.tuple #[]) ∧ OwnS w' w0.heap.size v (ssort l) ∧ Below w0.heap.size w0 w' := by
  obtain ⟨hlen, ⟨rfl, h0⟩ | ⟨g, cap, cur, rfl, hg, hh, h1, h2, h3, h4⟩⟩ := hown
  · have hnil := List.length_eq_zero_iff.1 h0
    subst hnil
    refine (AnyF.slices_SortFunc_none { Tryz.laysSpan with } none 0 _ w).mono ?_
    rintro e w' ⟨he, rfl⟩
    exact ⟨he, by rw [show ssort [] = [] by simp [ssort]]; exact owns_nil _ _, hB⟩
  · have hf := flatS_length l
    have hH : HoldsK encT 2 w g 0 l.toArray := by
      unfold HoldsK
      rw [flatK_eq]
      intro j hj
      have hj' : j < (flatS l).length := by simpa using hj
      refine ⟨?_, by simp [World.frozen?, hh]⟩
      refine blk_cell hh _ ?_
      have h5 : (cur.toList.take (l.length * 2))[j]? = (flatS l)[j]? := by rw [h4]
      rw [List.getElem?_take_of_lt (by omega)] at h5
      rw [Nat.zero_add, ← Array.getElem?_toList, h5]
      simp [hj']
    have eg : ∀ args w, (callFunc 33 args).run Tryz.prog w = .ok (.enter 33 args) w := enters_of Tryz.func33 (by kernel_rfl) rfl
    have hc := AnyQ.slices_SortFunc_total Tryz.laysSpan 2 Tryz.isAgg34 Tryz.sizeOf34 encT (fun _ => rfl) (fun x v hv => by simp [encT] at hv; rcases hv with rfl | rfl <;> rfl) spanCmp span_swo 33 #[] g 0 cap l.toArray w eg (scmp_lays g 0 l.toArray.size w) hH (blk_lt hh) (by simp; omega) span_tot
    have hs : l.toArray.size = l.length := by simp
    rw [hs] at hc
    refine hc.mono ?_
    rintro e w' ⟨he, n, os, rfl⟩
    have e0 : sortWorldK encT 2 w g 0 n (l.toArray.toList.mergeSort fun x y => !(ltOf spanCmp) y x).toArray os = grow (putRow id (Sort.ahead w n) g 0 (flatS (ssort l)).toArray) os := by
      unfold sortWorldK putRowK
      rw [flatK_eq, ssort_eq]
    rw [e0]
    have hf2 := flatS_length (ssort l)
    have hl2 := ssort_length l
    refine ⟨he, ⟨flatS_length _, .inr ⟨g, cap, _, by rw [hl2], hg, heap_sortedK _ hh, by omega, h2, by simp [putCells, h3], ?_⟩⟩, hB.grown (grownBy_sortedK _) hB.size (fun k e => by cases e; exact hg)⟩
    rw [← hf2]
    exact take_putCellsK cur _ (by omega)
end Go.Proofs.YthcngkcfopaigaaGreat

namespace Go.Proofs.YthcngkcfopaigaaGreat
open Go.RowKit
/-- the members of the times that a rule gives, and those of changed times -/
def mem1 (base : Int) (ts : List (Int × Int)) (e : EventV) (f t : Int) (l : List Int) : List (Int × Int) := l.flatMap fun x => mspan base ts x e.long f t
def mem2 (base : Int) (ts : List (Int × Int)) (e : EventV) (f t : Int) (l : List (Int × Int × Int)) : List (Int × Int) := l.flatMap fun c => if eat e c.1 = true then mspan base ts c.2.1 c.2.2 f t else []
def mout (base : Int) (ts : List (Int × Int)) (e : EventV) (f t : Int) : Bool :=
  !emay e || !zmay base ts || decide (t ≤ f) || decide (f < -1099511627776) || decide (1099511627776 < t) || decide (528480 < t - f)
def wspan (e : EventV) (f t : Int) : List (Int × Int) := if e.start < t ∧ f < e.start + e.long then [(e.start, e.start + e.long)] else []
def emembers (base : Int) (ts : List (Int × Int)) (e : EventV) (f t : Int) : List (Int × Int) :=
  if mout base ts e f t = true then []
  else if e.world = true then wspan e f t
  else ssort (mem1 base ts e f t (ptimes e (f - e.long - 1800) (t + 1800)) ++ mem2 base ts e f t e.changes)
theorem mspan_length (base : Int) (ts : List (Int × Int)) (x l f t : Int) : (mspan base ts x l f t).length ≤ 1 := by unfold mspan; split <;> simp
theorem mem1_length (base : Int) (ts : List (Int × Int)) (e : EventV) (f t : Int) (l : List Int) : (mem1 base ts e f t l).length ≤ l.length := by
  unfold mem1
  induction l with
  | nil => simp
  | cons x l ih => rw [List.flatMap_cons, List.length_append, List.length_cons]; have := mspan_length base ts x e.long f t; omega
theorem mem2_length (base : Int) (ts : List (Int × Int)) (e : EventV) (f t : Int) (l : List (Int × Int × Int)) : (mem2 base ts e f t l).length ≤ l.length := by
  unfold mem2
  induction l with
  | nil => simp
  | cons x l ih =>
    rw [List.flatMap_cons, List.length_append, List.length_cons]
    have : (if eat e x.1 = true then mspan base ts x.2.1 x.2.2 f t else []).length ≤ 1 := by split; exact mspan_length _ _ _ _ _ _; simp
    omega
theorem mem1_snoc (base : Int) (ts : List (Int × Int)) (e : EventV) (f t : Int) {l : List Int} {k : Nat} (h : k < l.length) : mem1 base ts e f t (l.take (k + 1)) = mem1 base ts e f t (l.take k) ++ mspan base ts (ig l k) e.long f t := by
  unfold mem1; rw [take_snoc h, List.flatMap_append]; simp
theorem mem2_snoc (base : Int) (ts : List (Int × Int)) (e : EventV) (f t : Int) {l : List (Int × Int × Int)} {k : Nat} (h : k < l.length) :
    mem2 base ts e f t (l.take (k + 1)) = mem2 base ts e f t (l.take k) ++ (if eat e (cat l k) = true then mspan base ts (cst l k) (clo l k) f t else []) := by
  unfold mem2
  have e1 : cat l k = l[k].1 := by simp [cat, h]
  have e2 : cst l k = l[k].2.1 := by simp [cst, h]
  have e3 : clo l k = l[k].2.2 := by simp [clo, h]
  rw [List.take_succ_eq_append_getElem h, List.flatMap_append, e1, e2, e3]; simp
theorem ptimes_length (e : EventV) {f t : Int} (h : f ≤ t) : ((ptimes e f t).length : Int) ≤ t - f :=
  pairwise_lt_length (daysIn_sorted _ _ _) (fun x hx => by have := mem_daysIn.1 hx; omega) h
theorem ptimes_range {e : EventV} (hm : emay e = true) {f t : Int} {k : Nat} (h : k < (ptimes e f t).length) : 0 ≤ ig (ptimes e f t) k ∧ ig (ptimes e f t) k < 158310720 := by
  have := (mem_daysIn.1 (ig_get h)).2.2
  unfold etime at this
  rw [Bool.and_eq_true] at this
  exact etime0_range hm this.1
theorem heap3 {w w' : World} {o0 o1 o2 : Obj} (h : Below (((w.alloc o0).alloc o1).alloc o2).heap.size (((w.alloc o0).alloc o1).alloc o2) w') : w'.heap[w.heap.size]? = some o0 ∧ w'.heap[w.heap.size + 1]? = some o1 ∧ w'.heap[w.heap.size + 1 + 1]? = some o2 := by
  have n1 := blk_new (w.alloc o0) o1
  have n2 := blk_new ((w.alloc o0).alloc o1) o2
  simp only [World.size_alloc] at n1 n2
  exact ⟨blk_below (blk_alloc (blk_alloc (blk_new w o0) _) _) h, blk_below (blk_alloc n1 _) h, blk_below n2 h⟩
abbrev zoneC (base : Int) (a : Option Addr) (n cap : Nat) : Array Value := #[.int .i64 base, .slice a n cap]
set_option maxRecDepth 100000 in
set_option maxHeartbeats 8000000 in
theorem members_out (base : Int) (a : Option Addr) (cap : Nat) (ts : List (Int × Int)) (e : EventV) (A : EvA) (f t : Int) (w : World) (hz : Row 2 encT w a ts) (hzb : ts.length ≤ 1000000000000) (hr : EvAt w e A) (ho : mout base ts e f t = true) :
    Calls Tryz.prog 13 #[.agg (zoneC base a ts.length cap), .agg (eventC e A), .agg #[.int .i64 f, .int .i64 t]] w fun y w' => y = .returned (.slice none 0 0) ∧ Below w.heap.size w w' := by
  have HM := Hid.mk (fun w' (hb : Below w.heap.size w w') => emay_c e A w' (hr.below hb))
  have HZ := Hid.mk (fun w' (hb : Below w.heap.size w w') => zmay_c base a cap ts w' (hz.below hb) (by omega))
  have hB0 := Below.refl (((w.alloc (.cells (zoneC base a ts.length cap) 24)).alloc (.cells (eventC e A) 32)).alloc (.cells #[.int .i64 f, .int .i64 t] 34)).heap.size (((w.alloc (.cells (zoneC base a ts.length cap) 24)).alloc (.cells (eventC e A) 32)).alloc (.cells #[.int .i64 f, .int .i64 t] 34))
  have hE := (heap3 hB0).2.1
  clear hr hz
  cases hm : emay e with
  | false =>
    rw [hm] at HM
    clear hm ho
    go_enter Tryz.func13, Tryz.ntmps13
    try dsimp only [List.append]
    go_wp2_with (first | (refine ev_load rfl _ rfl _ rfl hE ?_) | (go_at_call 10; (refine (HM.out _ ?_).mono ?_); exact blw; rintro e' w1 ⟨rfl, hb1⟩))
    go_ret
    exact ⟨rfl, bl_step (a := w) blw hb1⟩
  | true =>
  rw [hm] at HM
  cases hz : zmay base ts with
  | false =>
    rw [hz] at HZ
    clear hm hz ho
    go_enter Tryz.func13, Tryz.ntmps13
    try dsimp only [List.append]
    go_wp2_with (first | (refine ev_load rfl _ rfl _ rfl hE ?_) | (go_at_call 10; (refine (HM.out _ ?_).mono ?_); exact blw; rintro e' w1 ⟨rfl, hb1⟩; obtain ⟨z1, z2, z3⟩ := heap3 hb1; have u0 := blk_cell z1 0 rfl; have u1 := blk_cell z1 1 rfl; have u2 := blk_cell z3 0 rfl; have u3 := blk_cell z3 1 rfl; have hB1 := bl_step (a := w) blw hb1; clear hE) | (go_at_call 29; (refine (HZ.out _ hB1).mono ?_); rintro e' w2 ⟨rfl, hb2⟩))
    go_ret
    exact ⟨rfl, bl_step hB1 hb2⟩
  | true =>
  rw [hz] at HZ
  have hc : (t ≤ f) ∨ (f < t ∧ f < -1099511627776) ∨ (f < t ∧ -1099511627776 ≤ f ∧ 1099511627776 < t) ∨ (f < t ∧ -1099511627776 ≤ f ∧ t ≤ 1099511627776 ∧ 528480 < t - f) := by
    simp only [mout, hm, hz, Bool.not_true, Bool.false_or, Bool.or_eq_true, decide_eq_true_eq] at ho
    omega
  clear hm hz ho
  rcases hc with h1 | ⟨h1, h2⟩ | ⟨h1, h2, h3⟩ | ⟨h1, h2, h3, h4⟩
  all_goals
    first
      | have t1 : decide (t ≤ f) = true := decide_eq_true (by omega)
      | have t1 : decide (t ≤ f) = false := decide_eq_false (by omega)
    try first
      | have t2 : decide (f < -1099511627776) = true := decide_eq_true (by omega)
      | have t2 : decide (f < -1099511627776) = false := decide_eq_false (by omega)
    try first
      | have t3 : decide (1099511627776 < t) = true := decide_eq_true (by omega)
      | have t3 : decide (1099511627776 < t) = false := decide_eq_false (by omega)
    try have t4 : decide (528480 < t - f) = true := decide_eq_true (by omega)
    go_enter Tryz.func13, Tryz.ntmps13
    try dsimp only [List.append]
    go_wp2_with (first | (refine ev_load rfl _ rfl _ rfl hE ?_) | (go_at_call 10; (refine (HM.out _ ?_).mono ?_); exact blw; rintro e' w1 ⟨rfl, hb1⟩; obtain ⟨z1, z2, z3⟩ := heap3 hb1; have u0 := blk_cell z1 0 rfl; have u1 := blk_cell z1 1 rfl; have u2 := blk_cell z3 0 rfl; have u3 := blk_cell z3 1 rfl; have hB1 := bl_step (a := w) blw hb1; clear hE) | (go_at_call 29; (refine (HZ.out _ hB1).mono ?_); rintro e' w2 ⟨rfl, hb2⟩; have v2 := below_get hb2 u2; have v3 := below_get hb2 u3))
    go_ret
    exact ⟨rfl, bl_step hB1 hb2⟩
end Go.Proofs.YthcngkcfopaigaaGreat

namespace Go.Proofs.YthcngkcfopaigaaGreat
open Go.RowKit
theorem owns_one (w : World) (p q : Int) : OwnS (w.alloc (.cells #[.int .i64 p, .int .i64 q] 34)) w.heap.size (.slice (some ⟨w.heap.size, 0, none⟩) 1 1) [(p, q)] :=
  ⟨rfl, .inr ⟨w.heap.size, 1, _, rfl, Nat.le_refl _, blk_new _ _, Nat.le_refl _, by decide, rfl, rfl⟩⟩
set_option maxRecDepth 100000 in
set_option maxHeartbeats 8000000 in
theorem members_world (base : Int) (a : Option Addr) (cap : Nat) (ts : List (Int × Int)) (e : EventV) (A : EvA) (f t : Int) (w : World) (hz : Row 2 encT w a ts) (hzb : ts.length ≤ 1000000000000) (hr : EvAt w e A) (ho : mout base ts e f t = false) (hw : e.world = true) :
    Calls Tryz.prog 13 #[.agg (zoneC base a ts.length cap), .agg (eventC e A), .agg #[.int .i64 f, .int .i64 t]] w fun y w' => (∃ v, y = .returned v ∧ OwnS w' w.heap.size v (wspan e f t)) ∧ Below w.heap.size w w' := by
  simp only [mout, Bool.or_eq_false_iff, Bool.not_eq_false', decide_eq_false_iff_not] at ho
  obtain ⟨⟨⟨⟨⟨hm, hzm⟩, h1⟩, h2⟩, h3⟩, h4⟩ := ho
  have hbd := emay_bd hm
  have HM := Hid.mk (fun w' (hb : Below w.heap.size w w') => hm ▸ emay_c e A w' (hr.below hb))
  have HZ := Hid.mk (fun w' (hb : Below w.heap.size w w') => hzm ▸ zmay_c base a cap ts w' (hz.below hb) (by omega))
  have hB0 := Below.refl (((w.alloc (.cells (zoneC base a ts.length cap) 24)).alloc (.cells (eventC e A) 32)).alloc (.cells #[.int .i64 f, .int .i64 t] 34)).heap.size (((w.alloc (.cells (zoneC base a ts.length cap) 24)).alloc (.cells (eventC e A) 32)).alloc (.cells #[.int .i64 f, .int .i64 t] 34))
  have hE := (heap3 hB0).2.1
  have HW := Hid.mk hw
  have t1 : decide (t ≤ f) = false := decide_eq_false (by omega)
  have t2 : decide (f < -1099511627776) = false := decide_eq_false (by omega)
  have t3 : decide (1099511627776 < t) = false := decide_eq_false (by omega)
  have t4 : decide (528480 < t - f) = false := decide_eq_false (by omega)
  clear hr hz hm hzm hw
  obtain ⟨b0, b1, b2, b3⟩ := hbd
  have hc : (t ≤ e.start) ∨ (e.start < t ∧ e.start + e.long ≤ f) ∨ (e.start < t ∧ f < e.start + e.long) := by omega
  rcases hc with g | ⟨g, g2⟩ | ⟨g, g2⟩
  · have s1 : decide (t ≤ e.start) = true := decide_eq_true g
    have HR : Hid (wspan e f t = []) := Hid.mk (if_neg (by omega))
    go_enter Tryz.func13, Tryz.ntmps13
    try dsimp only [List.append]
    go_wp2_with (first | (refine ev_load rfl _ rfl _ rfl hE ?_) | (go_at_call 10; (refine (HM.out _ ?_).mono ?_); exact blw; rintro e' w1 ⟨rfl, hb1⟩; obtain ⟨z1, z2, z3⟩ := heap3 hb1; have u0 := blk_cell z1 0 rfl; have u1 := blk_cell z1 1 rfl; have u2 := blk_cell z3 0 rfl; have u3 := blk_cell z3 1 rfl; have hB1 := bl_step (a := w) blw hb1; clear hE) | (go_at_call 29; (refine (HZ.out _ hB1).mono ?_); rintro e' w2 ⟨rfl, hb2⟩; have v2 := below_get hb2 u2; have v3 := below_get hb2 u3; have x2 := below_get hb2 (blk_cell z2 2 (v := .bool true) (by show some (Value.bool e.world) = _; rw [HW.out])); have x0 := below_get hb2 (blk_cell z2 0 rfl); have x1 := below_get hb2 (blk_cell z2 1 rfl)))
    go_ret
    exact ⟨⟨_, rfl, by rw [HR.out]; exact owns_nil _ _⟩, bl_step hB1 hb2⟩
  · have s1 : decide (t ≤ e.start) = false := decide_eq_false (by omega)
    have s2 : decide (e.start + e.long ≤ f) = true := decide_eq_true g2
    have HR : Hid (wspan e f t = []) := Hid.mk (if_neg (by omega))
    go_enter Tryz.func13, Tryz.ntmps13
    try dsimp only [List.append]
    go_wp2_with (first | (refine ev_load rfl _ rfl _ rfl hE ?_) | (go_at_call 10; (refine (HM.out _ ?_).mono ?_); exact blw; rintro e' w1 ⟨rfl, hb1⟩; obtain ⟨z1, z2, z3⟩ := heap3 hb1; have u0 := blk_cell z1 0 rfl; have u1 := blk_cell z1 1 rfl; have u2 := blk_cell z3 0 rfl; have u3 := blk_cell z3 1 rfl; have hB1 := bl_step (a := w) blw hb1; clear hE) | (go_at_call 29; (refine (HZ.out _ hB1).mono ?_); rintro e' w2 ⟨rfl, hb2⟩; have v2 := below_get hb2 u2; have v3 := below_get hb2 u3; have x2 := below_get hb2 (blk_cell z2 2 (v := .bool true) (by show some (Value.bool e.world) = _; rw [HW.out])); have x0 := below_get hb2 (blk_cell z2 0 rfl); have x1 := below_get hb2 (blk_cell z2 1 rfl)))
    go_ret
    exact ⟨⟨_, rfl, by rw [HR.out]; exact owns_nil _ _⟩, bl_step hB1 hb2⟩
  · have s1 : decide (t ≤ e.start) = false := decide_eq_false (by omega)
    have s2 : decide (e.start + e.long ≤ f) = false := decide_eq_false (by omega)
    have HR : Hid (wspan e f t = [(e.start, e.start + e.long)]) := Hid.mk (if_pos ⟨g, g2⟩)
    go_enter Tryz.func13, Tryz.ntmps13
    try dsimp only [List.append]
    go_wp2_with (first | (refine ev_load rfl _ rfl _ rfl hE ?_) | (go_at_call 10; (refine (HM.out _ ?_).mono ?_); exact blw; rintro e' w1 ⟨rfl, hb1⟩; obtain ⟨z1, z2, z3⟩ := heap3 hb1; have u0 := blk_cell z1 0 rfl; have u1 := blk_cell z1 1 rfl; have u2 := blk_cell z3 0 rfl; have u3 := blk_cell z3 1 rfl; have hB1 := bl_step (a := w) blw hb1; clear hE) | (go_at_call 29; (refine (HZ.out _ hB1).mono ?_); rintro e' w2 ⟨rfl, hb2⟩; have v2 := below_get hb2 u2; have v3 := below_get hb2 u3; have x2 := below_get hb2 (blk_cell z2 2 (v := .bool true) (by show some (Value.bool e.world) = _; rw [HW.out])); have x0 := below_get hb2 (blk_cell z2 0 rfl); have x1 := below_get hb2 (blk_cell z2 1 rfl)))
    go_ret
    have hB2 := bl_step hB1 hb2
    exact ⟨⟨_, rfl, by rw [HR.out]; exact owns_base (owns_one _ _ _) hB2.size⟩, bl_alloc hB2 _⟩
end Go.Proofs.YthcngkcfopaigaaGreat

namespace Go.Proofs.YthcngkcfopaigaaGreat
open Go.RowKit
set_option maxRecDepth 100000 in
set_option maxHeartbeats 8000000 in
theorem members_list (base : Int) (a : Option Addr) (cap : Nat) (ts : List (Int × Int)) (e : EventV) (A : EvA) (f t : Int) (w : World) (hz : Row 2 encT w a ts) (hzb : ts.length ≤ 1000000000000) (hr : EvAt w e A) (ho : mout base ts e f t = false) (hw : e.world = false) :
    Calls Tryz.prog 13 #[.agg (zoneC base a ts.length cap), .agg (eventC e A), .agg #[.int .i64 f, .int .i64 t]] w fun y w' => (∃ v, y = .returned v ∧ OwnS w' w.heap.size v (ssort (mem1 base ts e f t (ptimes e (f - e.long - 1800) (t + 1800)) ++ mem2 base ts e f t e.changes))) ∧ Below w.heap.size w w' := by
  simp only [mout, Bool.or_eq_false_iff, Bool.not_eq_false', decide_eq_false_iff_not] at ho
  obtain ⟨⟨⟨⟨⟨hm, hzm⟩, h1⟩, h2⟩, h3⟩, h4⟩ := ho
  have hbd := emay_bd hm
  have HM := Hid.mk (fun w' (hb : Below w.heap.size w w') => hm ▸ emay_c e A w' (hr.below hb))
  have HZ := Hid.mk (fun w' (hb : Below w.heap.size w w') => hzm ▸ zmay_c base a cap ts w' (hz.below hb) (by omega))
  have HP := Hid.mk (fun w' (hb : Below w.heap.size w w') => plain_c e A (f - e.long - 1800) (t + 1800) w' (hr.below hb) hm (by omega) (by omega) (by omega))
  have HB := Hid.mk (fun w0 w' v xs x l (hb : Below w.heap.size w w0) h1 h2 h3 h4 h5 h6 h7 => member_c w0 w' v xs base a cap ts x l f t h1 h2 h3 (hz.below hb) hzm h4 h5 h6 h7)
  have HA := Hid.mk (fun x w' (hb : Below w.heap.size w w') => eat_c e A x w' (hr.below hb))
  have HPR := Hid.mk (fun k h => ptimes_range (f := f - e.long - 1800) (t := t + 1800) hm (k := k) h)
  have HPL := Hid.mk (ptimes_length e (f := f - e.long - 1800) (t := t + 1800) (by omega))
  have HR3 := Hid.mk (fun w' (hb : Below w.heap.size w w') => hr.r3.below hb)
  have HCB : Hid (∀ k, k < e.changes.length → eat e (cat e.changes k) = true → -1000000000 ≤ cst e.changes k ∧ cst e.changes k ≤ 1000000000 ∧ 0 ≤ clo e.changes k ∧ clo e.changes k ≤ 10080) := Hid.mk (fun k hk _ => by
    cases ha : e.again with
    | false => have h := emay_once hm ha; rw [h.2.2.2.2.2.2.2] at hk; simp at hk
    | true =>
      have h := (echg_iff.1 (emay_again hm ha).2.2.2.2.2.2.2.2).1 k hk
      omega)
  have hcl : e.changes.length ≤ 50 := by
    cases ha : e.again with
    | false => have h := emay_once hm ha; rw [h.2.2.2.2.2.2.2]; simp
    | true => exact (echg_iff.1 (emay_again hm ha).2.2.2.2.2.2.2.2).2
  have hB0 := Below.refl (((w.alloc (.cells (zoneC base a ts.length cap) 24)).alloc (.cells (eventC e A) 32)).alloc (.cells #[.int .i64 f, .int .i64 t] 34)).heap.size (((w.alloc (.cells (zoneC base a ts.length cap) 24)).alloc (.cells (eventC e A) 32)).alloc (.cells #[.int .i64 f, .int .i64 t] 34))
  have hE := (heap3 hB0).2.1
  have HW := Hid.mk hw
  have t1 : decide (t ≤ f) = false := decide_eq_false (by omega)
  have t2 : decide (f < -1099511627776) = false := decide_eq_false (by omega)
  have t3 : decide (1099511627776 < t) = false := decide_eq_false (by omega)
  have t4 : decide (528480 < t - f) = false := decide_eq_false (by omega)
  clear hr hz hm hzm hw
  obtain ⟨b0, b1, b2, b3⟩ := hbd
  go_enter Tryz.func13, Tryz.ntmps13
  try dsimp only [List.append]
  go_wp2_with (first | (refine ev_load rfl _ rfl _ rfl hE ?_) | (go_at_call 10; (refine (HM.out _ ?_).mono ?_); exact blw; rintro e' w1 ⟨rfl, hb1⟩; obtain ⟨z1, z2, z3⟩ := heap3 hb1; have u0 := blk_cell z1 0 rfl; have u1 := blk_cell z1 1 rfl; have u2 := blk_cell z3 0 rfl; have u3 := blk_cell z3 1 rfl; have hB1 := bl_step (a := w) blw hb1; clear hE) | (go_at_call 29; (refine (HZ.out _ hB1).mono ?_); rintro e' w2 ⟨rfl, hb2⟩; have v2 := below_get hb2 u2; have v3 := below_get hb2 u3; have x2 := below_get hb2 (blk_cell z2 2 (v := .bool false) (by show some (Value.bool e.world) = _; rw [HW.out])); have x1 := below_get hb2 (blk_cell z2 1 rfl); have hE2 := blk_below z2 hb2) | (refine ev_load rfl _ rfl _ rfl hE2 ?_) | (go_at_call 30; (refine (HP.out _ (bl_step hB1 hb2)).mono ?_); rintro e' w3 ⟨⟨v, rfl, ho3⟩, hb3⟩; obtain ⟨al, cal, rfl, hil⟩ := own_ints ho3))
  have hB2 := bl_step hB1 hb2
  have hB3 := bl_step hB2 hb3
  have g1 := blk_below (blk_below z1 hb2) hb3
  have g2 := blk_below (blk_below z2 hb2) hb3
  have g3 := blk_below (blk_below z3 hb2) hb3
  have G1 := Hid.mk g1
  have G2 := Hid.mk g2
  have G3 := Hid.mk g3
  have hil3 := Hid.mk hil
  clear g1 g2 g3 z1 z2 z3 u0 u1 u2 u3 v2 v3 x1 x2 hE2 hb1 hb2 hb3 ho3 hil HM HZ HP hB0
  generalize hpl : ptimes e (f - e.long - 1800) (t + 1800) = pl at *
  have HPE := Hid.mk hpl
  clear hpl
  have hpll : pl.length ≤ 10000000 := by have := HPL.out; omega
  go_loopw [8, 85] (fun sv si wr => ∃ k : Nat, k ≤ pl.length ∧ si = .int .i64 k ∧ OwnS wr w3.heap.size sv (mem1 base ts e f t (pl.take k)) ∧ Below w3.heap.size w3 wr) (fun _ si _ => pl.length - (intOf si).toNat)
  case atStart => exact ⟨0, by omega, rfl, owns_nil _ _, Below.refl _ _⟩
  case round =>
    obtain ⟨k, hk, rfl, ho, hB⟩ := hrel
    by_cases hlt : k < pl.length
    · obtain ⟨b, off, rfl, hcells⟩ := (hil3.out.below hB).ig hlt
      have c0 := hcells k hlt
      have hbz := block_lt c0
      have HS := Hid.mk (mem1_snoc base ts e f t hlt)
      have hr := HPR.out k hlt
      have hln : (mem1 base ts e f t (pl.take k)).length ≤ k := by
        have h1 := mem1_length base ts e f t (pl.take k)
        have h2 := List.length_take_le k pl
        omega
      have HMB := Hid.mk (HB.out w3 wr _ _ (ig pl k) e.long hB3 hB ho (by omega) (by omega) (by omega) (by omega) (by omega))
      have u0 := blk_cell (blk_below G1.out hB) 0 rfl
      have u1 := blk_cell (blk_below G1.out hB) 1 rfl
      have u2 := blk_cell (blk_below G3.out hB) 0 rfl
      have u3 := blk_cell (blk_below G3.out hB) 1 rfl
      have u4 := blk_cell (blk_below G2.out hB) 1 rfl
      have hz0 := block_lt u0
      have hz1 := block_lt u2
      have hz2 := block_lt u4
      clear ho hcells hr
      generalize ig pl k = X at *
      go_wp2_with (go_at_call 31; (refine HMB.out.mono ?_); rintro e' w4 ⟨⟨v4, rfl, ho4⟩, hb4⟩)
      go_roundw
      case rel => exact ⟨k + 1, by omega, by go_num, by rw [HS.out]; exact ho4, hb4⟩
      case measure => simp [intOf]; omega
    · obtain rfl : k = pl.length := by omega
      rw [List.take_length] at ho
      have hl1 := mem1_length base ts e f t pl
      generalize hm1 : mem1 base ts e f t pl = M1 at *
      have HM1 := Hid.mk hm1
      clear hm1
      have u5 := blk_cell (blk_below G2.out hB) 15 rfl
      have hz2 := block_lt u5
      have HO := Hid.mk ho
      clear ho
      have d1 : decide (pl.length < pl.length) = false := decide_eq_false (by omega)
      go_wp2
      obtain ⟨wo, rfl⟩ : ∃ wo : World, wo = wr := ⟨_, rfl⟩
      generalize A.e3 = a3 at HR3 ⊢
      clear u5 hz2
      go_loopw [8, 100] (fun sv si wr => ∃ k : Nat, k ≤ e.changes.length ∧ si = .int .i64 k ∧ OwnS wr w3.heap.size sv (M1 ++ mem2 base ts e f t (e.changes.take k)) ∧ Below w3.heap.size w3 wr) (fun _ si _ => e.changes.length - (intOf si).toNat)
      case atStart => exact ⟨0, by omega, rfl, by simpa [mem2] using HO.out, hB⟩
      case round =>
        obtain ⟨k, hk, rfl, ho, hB'⟩ := hrel
        have hln : (mem2 base ts e f t (e.changes.take k)).length ≤ k := by
          have h1 := mem2_length base ts e f t (e.changes.take k)
          have h2 := List.length_take_le k e.changes
          omega
        by_cases hlt : k < e.changes.length
        · obtain ⟨b, off, rfl, hcells⟩ := (HR3.out wr (bl_step hB3 hB')).get hlt
          obtain ⟨c0, c1, c2⟩ := row_ch hcells hlt
          have hbz := block_lt c0
          have HS := Hid.mk (mem2_snoc base ts e f t hlt)
          have HCK := Hid.mk (HCB.out k hlt)
          have HAT := Hid.mk (HA.out (cat e.changes k) (wr.alloc (.cells #[.int .i64 (cat e.changes k), .int .i64 (cst e.changes k), .int .i64 (clo e.changes k)] 47)) (bl_alloc (bl_step hB3 hB') _))
          have hE3 := Hid.mk (blk_alloc (blk_below G2.out hB') (.cells #[.int .i64 (cat e.changes k), .int .i64 (cst e.changes k), .int .i64 (clo e.changes k)] 47))
          have HOO := Hid.mk ho
          clear ho hcells
          generalize cat e.changes k = CA at *
          generalize cst e.changes k = CS at *
          generalize clo e.changes k = CL at *
          generalize hM2 : mem2 base ts e f t (e.changes.take k) = M2 at *
          have HM2 := Hid.mk hM2
          clear hM2
          cases hea : eat e CA with
          | false =>
            rw [hea] at HAT
            have HSS : Hid (mem2 base ts e f t (e.changes.take (k + 1)) = M2) := Hid.mk (by rw [HS.out, hea]; simp)
            clear hea
            go_wp2_with (first | (refine ev_load rfl _ rfl _ rfl hE3.out ?_) | (go_at_call 16; (refine HAT.out.mono ?_); rintro e' w4 ⟨rfl, hb4⟩))
            go_roundw
            case rel => exact ⟨k + 1, by omega, by go_num, by rw [HSS.out]; exact owns_below (HOO.out.alloc _) hb4, (bl_alloc hB' _).trans (hb4.mono (by have := hB'.size; simp; omega))⟩
            case measure => simp [intOf]; omega
          | true =>
            rw [hea] at HAT
            have hrg := HCK.out hea
            have HSS : Hid (mem2 base ts e f t (e.changes.take (k + 1)) = M2 ++ mspan base ts CS CL f t) := Hid.mk (by rw [HS.out, hea]; simp)
            clear hea
            obtain ⟨r1, r2, r3, r4⟩ := hrg
            go_wp2_with (first | (refine ev_load rfl _ rfl _ rfl hE3.out ?_) | (go_at_call 16; (refine HAT.out.mono ?_); rintro e' w4 ⟨rfl, hb4⟩; have hB4 := (bl_alloc (a := w3) hB' (.cells #[.int .i64 CA, .int .i64 CS, .int .i64 CL] 47)).trans (hb4.mono (by have := hB'.size; simp; omega)); have u0 := blk_cell (blk_below G1.out hB4) 0 rfl; have u1 := blk_cell (blk_below G1.out hB4) 1 rfl; have u2 := blk_cell (blk_below G3.out hB4) 0 rfl; have u3 := blk_cell (blk_below G3.out hB4) 1 rfl; have u4 := box_get hb4 1 rfl; have u5 := box_get hb4 2 rfl) | (go_at_call 31; (refine (HB.out w3 w4 _ _ CS CL hB3 hB4 (owns_below (HOO.out.alloc _) hb4) ?_ r1 r2 r3 r4).mono ?_); (rw [List.length_append]; omega); rintro e' w5 ⟨⟨v5, rfl, ho5⟩, hb5⟩))
            go_roundw
            case rel => exact ⟨k + 1, by omega, by go_num, by rw [HSS.out, ← List.append_assoc]; exact ho5, hb5⟩
            case measure => simp [intOf]; omega
        · obtain rfl : k = e.changes.length := by omega
          rw [List.take_length] at ho hln
          have hsl : (M1 ++ mem2 base ts e f t e.changes).length ≤ 1000000000000 := by rw [List.length_append]; omega
          have HFE : Hid (mem1 base ts e f t (ptimes e (f - e.long - 1800) (t + 1800)) ++ mem2 base ts e f t e.changes = M1 ++ mem2 base ts e f t e.changes) := Hid.mk (by rw [HPE.out, HM1.out])
          generalize M1 ++ mem2 base ts e f t e.changes = L at *
          have HSC := Hid.mk (ssort_c w3 wr _ _ hB' ho hsl)
          obtain ⟨asl, csl, rfl, _⟩ := owns_row ho
          have d2 : decide (e.changes.length < e.changes.length) = false := decide_eq_false (by omega)
          clear ho hln hsl
          go_wp2_with (go_at_call 32; (refine HSC.out.mono ?_); rintro e' w6 ⟨rfl, ho6, hb6⟩; have hO6 := Hid.mk ho6; clear ho6)
          go_ret
          exact ⟨⟨_, rfl, by rw [HFE.out]; exact owns_base hO6.out hB3.size⟩, bl_step hB3 hb6⟩
theorem members_c (base : Int) (a : Option Addr) (cap : Nat) (ts : List (Int × Int)) (e : EventV) (A : EvA) (f t : Int) (w : World) (hz : Row 2 encT w a ts) (hzb : ts.length ≤ 1000000000000) (hr : EvAt w e A) :
    Calls Tryz.prog 13 #[.agg (zoneC base a ts.length cap), .agg (eventC e A), .agg #[.int .i64 f, .int .i64 t]] w fun y w' => (∃ v, y = .returned v ∧ OwnS w' w.heap.size v (emembers base ts e f t)) ∧ Below w.heap.size w w' := by
  unfold emembers
  cases ho : mout base ts e f t with
  | true =>
    rw [if_pos rfl]
    exact (members_out base a cap ts e A f t w hz hzb hr ho).mono fun _ _ ⟨h1, h2⟩ => ⟨⟨_, h1, owns_nil _ _⟩, h2⟩
  | false =>
    rw [if_neg (by simp)]
    cases hw : e.world with
    | true => rw [if_pos rfl]; exact members_world base a cap ts e A f t w hz hzb hr ho hw
    | false => rw [if_neg (by simp)]; exact members_list base a cap ts e A f t w hz hzb hr ho hw
end Go.Proofs.YthcngkcfopaigaaGreat
