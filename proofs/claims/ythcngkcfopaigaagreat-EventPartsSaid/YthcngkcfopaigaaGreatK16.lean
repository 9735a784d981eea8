/- The walks of events: changes; the same rules.
The walks: the same rows, the same rules.
The walk of rule.Same (printed by gen_same.py).
The walks of events: whether an event may be.
The walks of events: is a stamp among others. -/
import Derived.Test.YthcngkcfopaigaaGreatK15
import Derived.Deep.RegionHeld3
import Derived.Test.YthcngkcfopaigaaGreatK6
namespace Go.Proofs.YthcngkcfopaigaaGreat
open Go.RowKit
def encC (t : Int × Int × Int) : List Value := [.int .i64 t.1, .int .i64 t.2.1, .int .i64 t.2.2]
theorem row_ch {w : World} {b off : Nat} {ts : List (Int × Int × Int)} (h : ∀ (j : Nat) x, ts[j]? = some x → ∀ (i : Nat) v, (encC x)[i]? = some v → w.cell? ⟨b, off + j * 3 + i, none⟩ = some v) {k : Nat} (hk : k < ts.length) :
    w.cell? ⟨b, off + k * 3, none⟩ = some (.int .i64 (cat ts k)) ∧ w.cell? ⟨b, off + k * 3 + 1, none⟩ = some (.int .i64 (cst ts k)) ∧ w.cell? ⟨b, off + k * 3 + 2, none⟩ = some (.int .i64 (clo ts k)) := by
  have hx : ts[k]? = some ts[k] := by simp [hk]
  have e1 : cat ts k = ts[k].1 := by simp [cat, hk]
  have e2 : cst ts k = ts[k].2.1 := by simp [cst, hk]
  have e3 : clo ts k = ts[k].2.2 := by simp [clo, hk]
  rw [e1, e2, e3]
  exact ⟨h k _ hx 0 _ rfl, h k _ hx 1 _ rfl, h k _ hx 2 _ rfl⟩
theorem ats_take (l : List (Int × Int × Int)) {k : Nat} (h : k < l.length) : (ats l).take (k + 1) = (ats l).take k ++ [cat l k] := by
  have hl : k < (ats l).length := by rw [ats_length]; exact h
  rw [List.take_succ_eq_append_getElem hl, ← ats_ig, ig_eq hl]
set_option maxHeartbeats 4000000 in
theorem echg_c (a : Option Addr) (cap : Nat) (l : List (Int × Int × Int)) (w : World) (hr : Row 3 encC w a l) (hbig : l.length ≤ 1000000000000) :
    Calls Tryz.prog 24 #[.slice a l.length cap] w fun e w' => e = .returned (.bool (echg l)) ∧ Below w.heap.size w w' := by
  go_enter Tryz.func24, Tryz.ntmps24
  go_wp2
  go_loopw [3, 8] (fun v i wr => ∃ k : Nat, k ≤ l.length ∧ i = .int .i64 k ∧ (∀ j, j < k → echgAt l j = true) ∧ Own wr w.heap.size 2 v ((ats l).take k) ∧ Below w.heap.size w wr) (fun _ i _ => l.length - (intOf i).toNat)
  case atStart => exact ⟨0, by omega, rfl, fun j h => by omega, by simpa using own_nil _ _ _, Below.refl _ _⟩
  case round =>
    obtain ⟨k, k1, rfl, hok, ho, hB⟩ := hrel
    by_cases hlt : k < l.length
    · obtain ⟨b, off, rfl, hcells⟩ := (hr.below hB).get hlt
      obtain ⟨c0, c1, c2⟩ := row_ch hcells hlt
      have hbz := block_lt c0
      have HS := Hid.mk (fun w => stamp_c (cst l k) w)
      have HOK := Hid.mk hok
      have HO := Hid.mk ho
      have HNO : Hid (echgAt l k = false → echg l = false) := Hid.mk fun h => by unfold echg; rw [upto_false hlt h]; rfl
      have HEA := Hid.mk (show echgAt l k = (stampB (cst l k) && decide (0 ≤ clo l k) && decide (clo l k ≤ 10080)) from rfl)
      have HT := Hid.mk (ats_take l hlt)
      have htl : ((ats l).take k).length ≤ k := List.length_take_le _ _
      have HR := Hid.mk hr
      clear hok hcells ho hr
      generalize cat l k = A at *
      generalize cst l k = S at *
      generalize clo l k = L at *
      generalize (ats l).take k = ys at *
      have hbad : (stampB S = false) ∨ (stampB S = true ∧ L < 0) ∨ (stampB S = true ∧ 0 ≤ L ∧ 10080 < L) ∨ (stampB S = true ∧ 0 ≤ L ∧ L ≤ 10080) := by
        cases stampB S with
        | false => exact .inl rfl
        | true => right; by_cases h1 : L < 0; exact .inl ⟨rfl, h1⟩; right; by_cases h2 : 10080 < L; exact .inl ⟨rfl, by omega, h2⟩; exact .inr ⟨rfl, by omega, by omega⟩
      rcases hbad with hs | ⟨hs, hl⟩ | ⟨hs, hl, hl2⟩ | ⟨hs, hl, hl2⟩
      · have HF := Hid.mk (HNO.out (by rw [HEA.out, hs]; rfl))
        have HS2 := Hid.mk (fun w => hs ▸ HS.out w)
        clear hs
        go_wp2_with (go_at_call 20; (with_reducible refine (HS2.out _).mono ?_); rintro e w' ⟨rfl, rfl⟩)
        go_ret
        exact ⟨ret_bool HF.out.symm, blw⟩
      · have HF := Hid.mk (HNO.out (by rw [HEA.out, hs]; simp; omega))
        have HS2 := Hid.mk (fun w => hs ▸ HS.out w)
        clear hs
        have t1 : decide (L < 0) = true := decide_eq_true hl
        go_wp2_with (go_at_call 20; (with_reducible refine (HS2.out _).mono ?_); rintro e w' ⟨rfl, rfl⟩)
        go_ret
        exact ⟨ret_bool HF.out.symm, blw⟩
      · have HF := Hid.mk (HNO.out (by rw [HEA.out, hs]; simp; omega))
        have HS2 := Hid.mk (fun w => hs ▸ HS.out w)
        clear hs
        have t1 : decide (L < 0) = false := decide_eq_false (by omega)
        have t2 : decide (10080 < L) = true := decide_eq_true hl2
        go_wp2_with (go_at_call 20; (with_reducible refine (HS2.out _).mono ?_); rintro e w' ⟨rfl, rfl⟩)
        go_ret
        exact ⟨ret_bool HF.out.symm, blw⟩
      · have HY : Hid (echgAt l k = true) := Hid.mk (by rw [HEA.out, hs]; simp; omega)
        have HS2 := Hid.mk (fun w => hs ▸ HS.out w)
        clear hs
        have t1 : decide (L < 0) = false := decide_eq_false (by omega)
        have t2 : decide (10080 < L) = false := decide_eq_false (by omega)
        go_wp2_with (first | (go_at_call 20; (with_reducible refine (HS2.out _).mono ?_); rintro e w' ⟨rfl, rfl⟩) | (at_builtin; refine own_append info_i64 Tryz.underlying29 rfl _ _ rfl w.heap.size _ ys A _ rfl ?c1 rfl ?c2 ?c3 ?c4 ?_))
        case c1 => exact (HO.out.alloc _).alloc _
        case c2 => rw [World.cell?_alloc_at _ _ _ _ (by simp)]; rfl
        case c3 => omega
        case c4 => have := hB.size; simp; omega
        intro v' w4 ho4 hb4
        have hz4 := (bl_alloc (a := w) (bl_alloc (a := w) hB (.cells #[.int .i64 A, .int .i64 S, .int .i64 L] 47)) (.cells #[.int .i64 A] 2)).trans hb4
        go_wp2
        go_roundw
        case rel => exact ⟨k + 1, by omega, by go_num, fun j h => by (by_cases e : j = k; subst e; exact HY.out; exact HOK.out j (by omega)), by rw [HT.out]; exact ho4, hz4⟩
        case measure => simp [intOf]; omega
    · obtain rfl : k = l.length := by omega
      have HV : Hid (echg l = erow (ats l)) := Hid.mk (by unfold echg; rw [upto_true hok]; rfl)
      rw [List.take_of_length_le (by rw [ats_length]; exact Nat.le_refl _)] at ho
      obtain ⟨a', cap', rfl, hi⟩ := own_ints ho
      have HE := Hid.mk (erow_c a' cap' (ats l) wr hi (by rw [ats_length]; omega))
      clear hok ho hi hr
      generalize erow (ats l) = v at *
      go_wp2_with (go_at_call 23; (with_reducible refine HE.out.mono ?_); rintro e w' ⟨rfl, rfl⟩)
      go_ret
      exact ⟨ret_bool HV.out.symm, hB⟩
end Go.Proofs.YthcngkcfopaigaaGreat

namespace Go.Proofs.YthcngkcfopaigaaGreat
open Go.RowKit
theorem eq_no {l m : List Int} {k : Nat} (h : ig l k ≠ ig m k) : l ≠ m := fun e => h (by rw [e])
set_option maxHeartbeats 4000000 in
theorem eqi_c (a b : Option Addr) (c d : Nat) (l m : List Int) (w : World) (hl : Ints w a l) (hm : Ints w b m) (hbig : l.length ≤ 1000000000000000) (_hbig2 : m.length ≤ 1000000000000000) :
    Calls Tryz.prog 42 #[.slice a l.length c, .slice b m.length d] w fun e w' => e = .returned (.bool (decide (l = m))) ∧ Below w.heap.size w w' := by
  by_cases hn : l.length = m.length
  rotate_left
  · have d1 : ((l.length : Int) != (m.length : Int)) = true := by simp; omega
    have HF : Hid (decide (l = m) = false) := Hid.mk (decide_eq_false fun e => hn (by rw [e]))
    generalize decide (l = m) = v at *
    go_enter Tryz.func42, Tryz.ntmps42
    go_wp2
    go_ret
    exact ⟨ret_bool HF.out.symm, blw⟩
  · have d1 : ((l.length : Int) != (m.length : Int)) = false := by simp; omega
    have HN := Hid.mk hn
    clear hn
    go_enter Tryz.func42, Tryz.ntmps42
    go_wp2
    go_loopw [13] (fun i wr => ∃ k : Nat, k ≤ l.length ∧ i = .int .i64 k ∧ (∀ j, j < k → ig l j = ig m j) ∧ Below w.heap.size w wr) (fun i _ => l.length - (intOf i).toNat)
    case atStart => exact ⟨0, by omega, rfl, fun j h => by omega, Below.refl _ _⟩
    case round =>
      obtain ⟨k, k1, rfl, hok, hB⟩ := hrel
      by_cases hlt : k < l.length
      · have hlt2 : k < m.length := by have := HN.out; omega
        obtain ⟨b1, o1, rfl, hc1⟩ := (hl.below hB).ig hlt
        obtain ⟨b2, o2, rfl, hc2⟩ := (hm.below hB).ig hlt2
        have c0 := hc1 k hlt
        have c1 := hc2 k hlt2
        have hz1 := block_lt c0
        have hz2 := block_lt c1
        have i0 : (0 : Int) ≤ (k : Int) := by omega
        have i1 : (k : Int) < (l.length : Int) := by omega
        have i2 : (k : Int) < (m.length : Int) := by omega
        have HOK := Hid.mk hok
        have HNO := Hid.mk (fun h => eq_no (l := l) (m := m) (k := k) h)
        have HX : Hid (ig l k = ig m k → ∀ j, j < k + 1 → ig l j = ig m j) := Hid.mk (fun h j hj => by (by_cases e : j = k; subst e; exact h; exact HOK.out j (by omega)))
        clear hok hc1 hc2 hl hm
        generalize ig l k = X at *
        generalize ig m k = Y at *
        by_cases hxy : X = Y
        · have e1 : (X != Y) = false := by simpa using hxy
          have HE := Hid.mk (HX.out hxy)
          clear hxy
          go_wp2
          go_quiet (fail)
          go_wp2
          go_roundw
          case rel => exact ⟨k + 1, by omega, by go_num, HE.out, bl_drewN hB _⟩
          case measure => simp [intOf]; omega
        · have e1 : (X != Y) = true := by simpa using hxy
          have HE := Hid.mk (decide_eq_false (HNO.out hxy))
          clear hxy
          go_wp2
          go_quiet (fail)
          go_wp2
          go_ret
          exact ⟨ret_bool HE.out.symm, bl_drewN hB _⟩
      · have HE : Hid (decide (l = m) = true) := Hid.mk (decide_eq_true (list_ext_ig HN.out fun j hj => hok j (by omega)))
        clear hok
        go_wp2
        go_ret
        exact ⟨ret_bool HE.out.symm, hB⟩
set_option maxHeartbeats 4000000 in
theorem eqd_c (a b : Option Addr) (c d : Nat) (l m : List (Int × Int)) (w : World) (hl : Row 2 encD w a l) (hm : Row 2 encD w b m) (hbig : l.length ≤ 1000000000000000) (_hbig2 : m.length ≤ 1000000000000000) :
    Calls Tryz.prog 43 #[.slice a l.length c, .slice b m.length d] w fun e w' => e = .returned (.bool (decide (l = m))) ∧ Below w.heap.size w w' := by
  by_cases hn : l.length = m.length
  rotate_left
  · have d1 : ((l.length : Int) != (m.length : Int)) = true := by simp; omega
    have HF : Hid (decide (l = m) = false) := Hid.mk (decide_eq_false fun e => hn (by rw [e]))
    generalize decide (l = m) = v at *
    go_enter Tryz.func43, Tryz.ntmps43
    go_wp2
    go_ret
    exact ⟨ret_bool HF.out.symm, blw⟩
  · have d1 : ((l.length : Int) != (m.length : Int)) = false := by simp; omega
    have HN := Hid.mk hn
    clear hn
    go_enter Tryz.func43, Tryz.ntmps43
    go_wp2
    go_loopw [13] (fun i wr => ∃ k : Nat, k ≤ l.length ∧ i = .int .i64 k ∧ (∀ j, j < k → dn l j = dn m j ∧ dd l j = dd m j) ∧ Below w.heap.size w wr) (fun i _ => l.length - (intOf i).toNat)
    case atStart => exact ⟨0, by omega, rfl, fun j h => by omega, Below.refl _ _⟩
    case round =>
      obtain ⟨k, k1, rfl, hok, hB⟩ := hrel
      by_cases hlt : k < l.length
      · have hlt2 : k < m.length := by have := HN.out; omega
        obtain ⟨b1, o1, rfl, hc1⟩ := (hl.below hB).get hlt
        obtain ⟨b2, o2, rfl, hc2⟩ := (hm.below hB).get hlt2
        obtain ⟨c0, c1⟩ := row_d hc1 hlt
        obtain ⟨c2, c3⟩ := row_d hc2 hlt2
        have hz1 := block_lt c0
        have hz2 := block_lt c2
        have i0 : (0 : Int) ≤ (k : Int) := by omega
        have i1 : (k : Int) < (l.length : Int) := by omega
        have i2 : (k : Int) < (m.length : Int) := by omega
        have HOK := Hid.mk hok
        have HNO : Hid (¬ (dn l k = dn m k ∧ dd l k = dd m k) → l ≠ m) := Hid.mk (fun h e => h (by rw [e]; exact ⟨rfl, rfl⟩))
        have HX : Hid ((dn l k = dn m k ∧ dd l k = dd m k) → ∀ j, j < k + 1 → dn l j = dn m j ∧ dd l j = dd m j) := Hid.mk (fun h j hj => by (by_cases e : j = k; subst e; exact h; exact HOK.out j (by omega)))
        clear hok hc1 hc2 hl hm
        generalize dn l k = X at *
        generalize dn m k = Y at *
        generalize dd l k = X2 at *
        generalize dd m k = Y2 at *
        by_cases hxy : X = Y ∧ X2 = Y2
        · obtain ⟨rfl, rfl⟩ := hxy
          have HE := Hid.mk (HX.out ⟨rfl, rfl⟩)
          clear HX HNO
          go_wp2
          go_quiet (fail)
          go_wp2
          go_roundw
          case rel => exact ⟨k + 1, by omega, by go_num, HE.out, bl_drewN hB _⟩
          case measure => simp [intOf]; omega
        · have HE := Hid.mk (decide_eq_false (HNO.out hxy))
          have hc : (X == Y) = false ∨ ((X == Y) = true ∧ (X2 == Y2) = false) := by
            by_cases h1 : X = Y
            · by_cases h2 : X2 = Y2
              · exact absurd ⟨h1, h2⟩ hxy
              · exact .inr ⟨by simpa using h1, by simpa using h2⟩
            · exact .inl (by simpa using h1)
          clear hxy HX HNO
          rcases hc with e1 | ⟨e1, e2⟩
          all_goals
            go_wp2
            go_quiet (fail)
            go_wp2
            go_ret
            exact ⟨ret_bool HE.out.symm, bl_drewN hB _⟩
      · have HE : Hid (decide (l = m) = true) := Hid.mk (decide_eq_true (list_ext_dn HN.out fun j hj => hok j (by omega)))
        clear hok
        go_wp2
        go_ret
        exact ⟨ret_bool HE.out.symm, hB⟩
end Go.Proofs.YthcngkcfopaigaaGreat

namespace Go.Proofs.YthcngkcfopaigaaGreat
open Go.RowKit
theorem two_box {w w' : World} {A B : Array Value} {T U : TypeId} (hB : Below ((w.alloc (.cells A T)).alloc (.cells B U)).heap.size ((w.alloc (.cells A T)).alloc (.cells B U)) w') :
    (∀ i v, A[i]? = some v → w'.cell? ⟨w.heap.size, i, none⟩ = some v) ∧ (∀ i v, B[i]? = some v → w'.cell? ⟨w.heap.size + 1, i, none⟩ = some v) :=
  ⟨fun i _ h => blk_cell (blk_below (blk_alloc (blk_new w (.cells A T)) _) hB) i h, fun i _ h => blk_cell (blk_below (by have := blk_new (w.alloc (.cells A T)) (.cells B U); rwa [World.size_alloc] at this) hB) i h⟩
set_option maxRecDepth 100000 in
set_option maxHeartbeats 8000000 in
theorem same_c (r q : RuleV) (a1 : Option Addr) (c1 : Nat) (a2 : Option Addr) (c2 : Nat) (a3 : Option Addr) (c3 : Nat) (a4 : Option Addr) (c4 : Nat) (b1 : Option Addr) (d1 : Nat) (b2 : Option Addr) (d2 : Nat) (b3 : Option Addr) (d3 : Nat) (b4 : Option Addr) (d4 : Nat) (w : World) (hr : RuleAt w r a1 a2 a3 a4) (hq : RuleAt w q b1 b2 b3 b4) :
    Calls Tryz.prog 21 #[.agg (ruleC r a1 c1 a2 c2 a3 c3 a4 c4), .agg (ruleC q b1 d1 b2 d2 b3 d3 b4 d4)] w fun e w' => e = .returned (.bool (rsame r q)) ∧ Below w.heap.size w w' := by
  have HV := Hid.mk (show rsame r q = (decide (r.freq = q.freq) && decide (r.interval = q.interval) && decide (r.count = q.count) && decide (r.till = q.till) && decide (r.start = q.start) && decide (r.byMonth = q.byMonth) && decide (r.byMonthDay = q.byMonthDay) && decide (r.byDay = q.byDay) && decide (r.bySetPos = q.bySetPos)) from rfl)
  have L1 := Hid.mk (fun w' (hb : Below w.heap.size w w') => eqi_c a1 b1 c1 d1 r.byMonth q.byMonth w' (hr.r1.below hb) (hq.r1.below hb) hr.b1 hq.b1)
  have L2 := Hid.mk (fun w' (hb : Below w.heap.size w w') => eqi_c a2 b2 c2 d2 r.byMonthDay q.byMonthDay w' (hr.r2.below hb) (hq.r2.below hb) hr.b2 hq.b2)
  have L3 := Hid.mk (fun w' (hb : Below w.heap.size w w') => eqd_c a3 b3 c3 d3 r.byDay q.byDay w' (hr.r3.below hb) (hq.r3.below hb) hr.b3 hq.b3)
  have L4 := Hid.mk (fun w' (hb : Below w.heap.size w w') => eqi_c a4 b4 c4 d4 r.bySetPos q.bySetPos w' (hr.r4.below hb) (hq.r4.below hb) hr.b4 hq.b4)
  have hB0 := Below.refl ((w.alloc (.cells (ruleC r a1 c1 a2 c2 a3 c3 a4 c4) 28)).alloc (.cells (ruleC q b1 d1 b2 d2 b3 d3 b4 d4) 28)).heap.size ((w.alloc (.cells (ruleC r a1 c1 a2 c2 a3 c3 a4 c4) 28)).alloc (.cells (ruleC q b1 d1 b2 d2 b3 d3 b4 d4) 28))
  clear hr hq
  generalize rsame r q = v at *
  by_cases x0 : r.freq = q.freq
  rotate_left
  · have HF : Hid (v = false) := Hid.mk (by rw [HV.out]; simp [x0])
    have e0 : (r.freq == q.freq) = false := by simpa using x0
    clear HV
    clear x0
    go_enter Tryz.func21, Tryz.ntmps21
    try dsimp only [List.append]
    go_wp2
    go_ret
    exact ⟨ret_bool HF.out.symm, bl_step (a := w) blw hB0⟩
  have e0 : (r.freq == q.freq) = true := by simpa using x0
  have X0 := Hid.mk x0
  clear x0
  by_cases x1 : r.interval = q.interval
  rotate_left
  · have HF : Hid (v = false) := Hid.mk (by rw [HV.out]; simp [x1])
    have e1 : (r.interval == q.interval) = false := by simpa using x1
    clear HV
    clear x1
    go_enter Tryz.func21, Tryz.ntmps21
    try dsimp only [List.append]
    go_wp2
    go_ret
    exact ⟨ret_bool HF.out.symm, bl_step (a := w) blw hB0⟩
  have e1 : (r.interval == q.interval) = true := by simpa using x1
  have X1 := Hid.mk x1
  clear x1
  by_cases x2 : r.count = q.count
  rotate_left
  · have HF : Hid (v = false) := Hid.mk (by rw [HV.out]; simp [x2])
    have e2 : (r.count == q.count) = false := by simpa using x2
    clear HV
    clear x2
    go_enter Tryz.func21, Tryz.ntmps21
    try dsimp only [List.append]
    go_wp2
    go_ret
    exact ⟨ret_bool HF.out.symm, bl_step (a := w) blw hB0⟩
  have e2 : (r.count == q.count) = true := by simpa using x2
  have X2 := Hid.mk x2
  clear x2
  by_cases x3 : r.till = q.till
  rotate_left
  · have HF : Hid (v = false) := Hid.mk (by rw [HV.out]; simp [x3])
    have e3 : (r.till == q.till) = false := by simpa using x3
    clear HV
    clear x3
    go_enter Tryz.func21, Tryz.ntmps21
    try dsimp only [List.append]
    go_wp2
    go_ret
    exact ⟨ret_bool HF.out.symm, bl_step (a := w) blw hB0⟩
  have e3 : (r.till == q.till) = true := by simpa using x3
  have X3 := Hid.mk x3
  clear x3
  by_cases x4 : r.start = q.start
  rotate_left
  · have HF : Hid (v = false) := Hid.mk (by rw [HV.out]; simp [x4])
    have e4 : (r.start == q.start) = false := by simpa using x4
    clear HV
    clear x4
    go_enter Tryz.func21, Tryz.ntmps21
    try dsimp only [List.append]
    go_wp2
    go_ret
    exact ⟨ret_bool HF.out.symm, bl_step (a := w) blw hB0⟩
  have e4 : (r.start == q.start) = true := by simpa using x4
  have X4 := Hid.mk x4
  clear x4
  by_cases x5 : r.byMonth = q.byMonth
  rotate_left
  · have HF : Hid (v = false) := Hid.mk (by rw [HV.out]; simp [x5])
    rw [decide_eq_false x5] at L1
    clear HV
    clear x5
    go_enter Tryz.func21, Tryz.ntmps21
    try dsimp only [List.append]
    go_wp2_with (first | (go_at_call 42; (with_reducible refine (L1.out _ ?_).mono ?_); exact bl_step (a := w) blw hB0; clear L1; rintro e w1 ⟨rfl, hb1⟩; have hB1 := bl_step hB0 hb1; have u15 := (two_box hB1).1 5 _ rfl; have v15 := (two_box hB1).2 5 _ rfl; have u16 := (two_box hB1).1 6 _ rfl; have v16 := (two_box hB1).2 6 _ rfl; have u17 := (two_box hB1).1 7 _ rfl; have v17 := (two_box hB1).2 7 _ rfl))
    go_ret
    exact ⟨ret_bool HF.out.symm, bl_step (a := w) blw hB1⟩
  rw [decide_eq_true x5] at L1
  have X5 := Hid.mk x5
  clear x5
  by_cases x6 : r.byMonthDay = q.byMonthDay
  rotate_left
  · have HF : Hid (v = false) := Hid.mk (by rw [HV.out]; simp [x6])
    rw [decide_eq_false x6] at L2
    clear HV
    clear x6
    go_enter Tryz.func21, Tryz.ntmps21
    try dsimp only [List.append]
    go_wp2_with (first | (go_at_call 42; (with_reducible refine (L1.out _ ?_).mono ?_); exact bl_step (a := w) blw hB0; clear L1; rintro e w1 ⟨rfl, hb1⟩; have hB1 := bl_step hB0 hb1; have u15 := (two_box hB1).1 5 _ rfl; have v15 := (two_box hB1).2 5 _ rfl; have u16 := (two_box hB1).1 6 _ rfl; have v16 := (two_box hB1).2 6 _ rfl; have u17 := (two_box hB1).1 7 _ rfl; have v17 := (two_box hB1).2 7 _ rfl) | (go_at_call 42; (with_reducible refine (L2.out _ ?_).mono ?_); exact bl_step (a := w) blw hB1; clear L2; rintro e w2 ⟨rfl, hb2⟩; have hB2 := bl_step hB1 hb2; have u26 := (two_box hB2).1 6 _ rfl; have v26 := (two_box hB2).2 6 _ rfl; have u27 := (two_box hB2).1 7 _ rfl; have v27 := (two_box hB2).2 7 _ rfl))
    go_ret
    exact ⟨ret_bool HF.out.symm, bl_step (a := w) blw hB2⟩
  rw [decide_eq_true x6] at L2
  have X6 := Hid.mk x6
  clear x6
  by_cases x7 : r.byDay = q.byDay
  rotate_left
  · have HF : Hid (v = false) := Hid.mk (by rw [HV.out]; simp [x7])
    rw [decide_eq_false x7] at L3
    clear HV
    clear x7
    go_enter Tryz.func21, Tryz.ntmps21
    try dsimp only [List.append]
    go_wp2_with (first | (go_at_call 42; (with_reducible refine (L1.out _ ?_).mono ?_); exact bl_step (a := w) blw hB0; clear L1; rintro e w1 ⟨rfl, hb1⟩; have hB1 := bl_step hB0 hb1; have u15 := (two_box hB1).1 5 _ rfl; have v15 := (two_box hB1).2 5 _ rfl; have u16 := (two_box hB1).1 6 _ rfl; have v16 := (two_box hB1).2 6 _ rfl; have u17 := (two_box hB1).1 7 _ rfl; have v17 := (two_box hB1).2 7 _ rfl) | (go_at_call 42; (with_reducible refine (L2.out _ ?_).mono ?_); exact bl_step (a := w) blw hB1; clear L2; rintro e w2 ⟨rfl, hb2⟩; have hB2 := bl_step hB1 hb2; have u26 := (two_box hB2).1 6 _ rfl; have v26 := (two_box hB2).2 6 _ rfl; have u27 := (two_box hB2).1 7 _ rfl; have v27 := (two_box hB2).2 7 _ rfl) | (go_at_call 43; (with_reducible refine (L3.out _ ?_).mono ?_); exact bl_step (a := w) blw hB2; clear L3; rintro e w3 ⟨rfl, hb3⟩; have hB3 := bl_step hB2 hb3; have u37 := (two_box hB3).1 7 _ rfl; have v37 := (two_box hB3).2 7 _ rfl))
    go_ret
    exact ⟨ret_bool HF.out.symm, bl_step (a := w) blw hB3⟩
  rw [decide_eq_true x7] at L3
  have X7 := Hid.mk x7
  clear x7
  by_cases x8 : r.bySetPos = q.bySetPos
  rotate_left
  · have HF : Hid (v = false) := Hid.mk (by rw [HV.out]; simp [x8])
    rw [decide_eq_false x8] at L4
    clear HV
    clear x8
    go_enter Tryz.func21, Tryz.ntmps21
    try dsimp only [List.append]
    go_wp2_with (first | (go_at_call 42; (with_reducible refine (L1.out _ ?_).mono ?_); exact bl_step (a := w) blw hB0; clear L1; rintro e w1 ⟨rfl, hb1⟩; have hB1 := bl_step hB0 hb1; have u15 := (two_box hB1).1 5 _ rfl; have v15 := (two_box hB1).2 5 _ rfl; have u16 := (two_box hB1).1 6 _ rfl; have v16 := (two_box hB1).2 6 _ rfl; have u17 := (two_box hB1).1 7 _ rfl; have v17 := (two_box hB1).2 7 _ rfl) | (go_at_call 42; (with_reducible refine (L2.out _ ?_).mono ?_); exact bl_step (a := w) blw hB1; clear L2; rintro e w2 ⟨rfl, hb2⟩; have hB2 := bl_step hB1 hb2; have u26 := (two_box hB2).1 6 _ rfl; have v26 := (two_box hB2).2 6 _ rfl; have u27 := (two_box hB2).1 7 _ rfl; have v27 := (two_box hB2).2 7 _ rfl) | (go_at_call 43; (with_reducible refine (L3.out _ ?_).mono ?_); exact bl_step (a := w) blw hB2; clear L3; rintro e w3 ⟨rfl, hb3⟩; have hB3 := bl_step hB2 hb3; have u37 := (two_box hB3).1 7 _ rfl; have v37 := (two_box hB3).2 7 _ rfl) | (go_at_call 42; (with_reducible refine (L4.out _ ?_).mono ?_); exact bl_step (a := w) blw hB3; clear L4; rintro e w4 ⟨rfl, hb4⟩; have hB4 := bl_step hB3 hb4))
    go_ret
    exact ⟨ret_bool HF.out.symm, bl_step (a := w) blw hB4⟩
  rw [decide_eq_true x8] at L4
  have X8 := Hid.mk x8
  clear x8
  have HF : Hid (v = true) := Hid.mk (by rw [HV.out]; simp [X0.out, X1.out, X2.out, X3.out, X4.out, X5.out, X6.out, X7.out, X8.out])
  clear HV
  go_enter Tryz.func21, Tryz.ntmps21
  try dsimp only [List.append]
  go_wp2_with (first | (go_at_call 42; (with_reducible refine (L1.out _ ?_).mono ?_); exact bl_step (a := w) blw hB0; clear L1; rintro e w1 ⟨rfl, hb1⟩; have hB1 := bl_step hB0 hb1; have u15 := (two_box hB1).1 5 _ rfl; have v15 := (two_box hB1).2 5 _ rfl; have u16 := (two_box hB1).1 6 _ rfl; have v16 := (two_box hB1).2 6 _ rfl; have u17 := (two_box hB1).1 7 _ rfl; have v17 := (two_box hB1).2 7 _ rfl) | (go_at_call 42; (with_reducible refine (L2.out _ ?_).mono ?_); exact bl_step (a := w) blw hB1; clear L2; rintro e w2 ⟨rfl, hb2⟩; have hB2 := bl_step hB1 hb2; have u26 := (two_box hB2).1 6 _ rfl; have v26 := (two_box hB2).2 6 _ rfl; have u27 := (two_box hB2).1 7 _ rfl; have v27 := (two_box hB2).2 7 _ rfl) | (go_at_call 43; (with_reducible refine (L3.out _ ?_).mono ?_); exact bl_step (a := w) blw hB2; clear L3; rintro e w3 ⟨rfl, hb3⟩; have hB3 := bl_step hB2 hb3; have u37 := (two_box hB3).1 7 _ rfl; have v37 := (two_box hB3).2 7 _ rfl) | (go_at_call 42; (with_reducible refine (L4.out _ ?_).mono ?_); exact bl_step (a := w) blw hB3; clear L4; rintro e w4 ⟨rfl, hb4⟩; have hB4 := bl_step hB3 hb4))
  go_ret
  exact ⟨ret_bool HF.out.symm, bl_step (a := w) blw hB4⟩
end Go.Proofs.YthcngkcfopaigaaGreat

namespace Go.Proofs.YthcngkcfopaigaaGreat
open Go.RowKit
structure EvA where
  a1 : Option Addr
  c1 : Nat
  a2 : Option Addr
  c2 : Nat
  a3 : Option Addr
  c3 : Nat
  a4 : Option Addr
  c4 : Nat
  e1 : Option Addr
  d1 : Nat
  e2 : Option Addr
  d2 : Nat
  e3 : Option Addr
  d3 : Nat
abbrev eventC (e : EventV) (A : EvA) : Array Value :=
  #[.int .i64 e.start, .int .i64 e.long, .bool e.world, .bool e.again, .int .i64 e.rule.freq, .int .i64 e.rule.interval, .int .i64 e.rule.count, .int .i64 e.rule.till, .slice A.a1 e.rule.byMonth.length A.c1, .slice A.a2 e.rule.byMonthDay.length A.c2, .slice A.a3 e.rule.byDay.length A.c3, .slice A.a4 e.rule.bySetPos.length A.c4, .int .i64 e.rule.start,
    .slice A.e1 e.ex.length A.d1, .slice A.e2 e.plus.length A.d2, .slice A.e3 e.changes.length A.d3]
/-- where the rows of an event lie -/
structure EvAt (w : World) (e : EventV) (A : EvA) : Prop where
  rule : RuleAt w e.rule A.a1 A.a2 A.a3 A.a4
  r1 : Ints w A.e1 e.ex
  r2 : Ints w A.e2 e.plus
  r3 : Row 3 encC w A.e3 e.changes
  b1 : e.ex.length ≤ 100000000000
  b2 : e.plus.length ≤ 100000000000
  b3 : e.changes.length ≤ 100000000000
theorem EvAt.below {w w' : World} {e : EventV} {A : EvA} (h : EvAt w e A) (hb : Below w.heap.size w w') : EvAt w' e A :=
  ⟨h.rule.below hb, h.r1.below hb, h.r2.below hb, h.r3.below hb, h.b1, h.b2, h.b3⟩
theorem ruleAt_zero (w : World) : RuleAt w RuleV.zero none none none none :=
  ⟨⟨fun h => absurd rfl h, fun _ _ e => by cases e⟩, ⟨fun h => absurd rfl h, fun _ _ e => by cases e⟩, ⟨fun h => absurd rfl h, fun _ _ e => by cases e⟩, ⟨fun h => absurd rfl h, fun _ _ e => by cases e⟩, by decide, by decide, by decide, by decide⟩
set_option maxRecDepth 100000 in
set_option maxHeartbeats 8000000 in
theorem emay_c (e : EventV) (A : EvA) (w : World) (hr : EvAt w e A) :
    Calls Tryz.prog 10 #[.agg (eventC e A)] w fun x w' => x = .returned (.bool (emay e)) ∧ Below w.heap.size w w' := by
  have HV := Hid.mk (show emay e = (stampB e.start && decide (1 ≤ e.long) && decide (e.long ≤ 10080) && (if e.again then !e.world && rmay e.rule && erow e.ex && erow e.plus && echg e.changes else rsame e.rule RuleV.zero && decide (e.ex.length + e.plus.length + e.changes.length = 0))) from rfl)
  have HS := Hid.mk (fun w => stamp_c e.start w)
  have HQ := Hid.mk (fun w' (hb : Below w.heap.size w w') => same_c e.rule RuleV.zero A.a1 A.c1 A.a2 A.c2 A.a3 A.c3 A.a4 A.c4 none 0 none 0 none 0 none 0 w' (hr.rule.below hb) (ruleAt_zero _))
  have HM := Hid.mk (fun w' (hb : Below w.heap.size w w') => rmay_c e.rule A.a1 A.c1 A.a2 A.c2 A.a3 A.c3 A.a4 A.c4 w' (hr.rule.below hb))
  have HE := Hid.mk (fun w' (hb : Below w.heap.size w w') => erow_c A.e1 A.d1 e.ex w' (hr.r1.below hb) (by have := hr.b1; omega))
  have HP := Hid.mk (fun w' (hb : Below w.heap.size w w') => erow_c A.e2 A.d2 e.plus w' (hr.r2.below hb) (by have := hr.b2; omega))
  have HC := Hid.mk (fun w' (hb : Below w.heap.size w w') => echg_c A.e3 A.d3 e.changes w' (hr.r3.below hb) (by have := hr.b3; omega))
  have hB0 := Below.refl (w.alloc (.cells (eventC e A) 32)).heap.size (w.alloc (.cells (eventC e A) 32))
  have n1 := hr.b1
  have n2 := hr.b2
  have n3 := hr.b3
  clear hr
  generalize emay e = v at *
  cases hs : stampB e.start with
  | false =>
    have HS2 := Hid.mk (fun w => hs ▸ HS.out w)
    have HF : Hid (v = false) := Hid.mk (by rw [HV.out, hs]; simp)
    clear hs
    go_enter Tryz.func10, Tryz.ntmps10
    try dsimp only [List.append]
    go_wp2_with (go_at_call 20; (with_reducible refine (HS2.out _).mono ?_); rintro e' w' ⟨rfl, rfl⟩)
    go_ret
    exact ⟨ret_bool HF.out.symm, blw⟩
  | true =>
  have HS2 := Hid.mk (fun w => hs ▸ HS.out w)
  have HST := Hid.mk hs
  clear hs HS
  by_cases hl : e.long < 1
  · have t1 : decide (e.long < 1) = true := decide_eq_true hl
    have HF : Hid (v = false) := Hid.mk (by rw [HV.out]; simp; omega)
    go_enter Tryz.func10, Tryz.ntmps10
    try dsimp only [List.append]
    go_wp2_with (go_at_call 20; (with_reducible refine (HS2.out _).mono ?_); rintro e' w' ⟨rfl, rfl⟩)
    go_ret
    exact ⟨ret_bool HF.out.symm, blw⟩
  have t1 : decide (e.long < 1) = false := decide_eq_false hl
  by_cases hl2 : 10080 < e.long
  · have t2 : decide (10080 < e.long) = true := decide_eq_true hl2
    have HF : Hid (v = false) := Hid.mk (by rw [HV.out]; simp; omega)
    go_enter Tryz.func10, Tryz.ntmps10
    try dsimp only [List.append]
    go_wp2_with (go_at_call 20; (with_reducible refine (HS2.out _).mono ?_); rintro e' w' ⟨rfl, rfl⟩)
    go_ret
    exact ⟨ret_bool HF.out.symm, blw⟩
  have t2 : decide (10080 < e.long) = false := decide_eq_false hl2
  have HBD : Hid (v = (if e.again then !e.world && rmay e.rule && erow e.ex && erow e.plus && echg e.changes else rsame e.rule RuleV.zero && decide (e.ex.length + e.plus.length + e.changes.length = 0))) := Hid.mk (by rw [HV.out, HST.out, decide_eq_true (show 1 ≤ e.long by omega), decide_eq_true (show e.long ≤ 10080 by omega)]; rfl)
  clear HV
  cases ha : e.again with
  | false =>
    have HBF : Hid (v = (rsame e.rule RuleV.zero && decide (e.ex.length + e.plus.length + e.changes.length = 0))) := Hid.mk (by rw [HBD.out, ha]; rfl)
    cases hq : rsame e.rule RuleV.zero with
    | false =>
      have HF : Hid (v = false) := Hid.mk (by rw [HBF.out, hq]; rfl)
      rw [hq] at HQ
      clear hq
      go_enter Tryz.func10, Tryz.ntmps10
      try dsimp only [List.append]
      go_wp2_with (first | (go_at_call 20; (with_reducible refine (HS2.out _).mono ?_); rintro e' w' ⟨rfl, rfl⟩) | (go_at_call 21; refine (HQ.out _ ?_).mono ?_; exact blw; rintro e' w1 ⟨rfl, hb1⟩))
      go_ret
      exact ⟨ret_bool HF.out.symm, bl_step (a := w) blw hb1⟩
    | true =>
      rw [hq] at HQ
      have hcn : ((((e.ex.length : Int) + e.plus.length + e.changes.length) == 0) = true ∧ v = true) ∨ ((((e.ex.length : Int) + e.plus.length + e.changes.length) == 0) = false ∧ v = false) := by
        rw [HBF.out, hq]
        by_cases h0 : e.ex.length + e.plus.length + e.changes.length = 0
        · exact .inl ⟨by rw [beq_iff_eq]; omega, by rw [Bool.true_and]; exact decide_eq_true h0⟩
        · exact .inr ⟨by rw [beq_eq_false_iff_ne]; omega, by rw [Bool.true_and]; exact decide_eq_false h0⟩
      clear hq
      rcases hcn with ⟨hcn, hv⟩ | ⟨hcn, hv⟩
      all_goals
        have HF := Hid.mk hv
        clear hv
        go_enter Tryz.func10, Tryz.ntmps10
        try dsimp only [List.append]
        go_wp2_with (first | (go_at_call 20; (with_reducible refine (HS2.out _).mono ?_); rintro e' w' ⟨rfl, rfl⟩) | (go_at_call 21; refine (HQ.out _ ?_).mono ?_; exact blw; rintro e' w1 ⟨rfl, hb1⟩; have u1 := box_get hb1 13 rfl; have u2 := box_get hb1 14 rfl; have u3 := box_get hb1 15 rfl))
        go_ret
        exact ⟨ret_bool HF.out.symm, bl_step (a := w) blw hb1⟩
  | true =>
    have HBT : Hid (v = (!e.world && rmay e.rule && erow e.ex && erow e.plus && echg e.changes)) := Hid.mk (by rw [HBD.out, ha]; rfl)
    cases hw : e.world with
    | true =>
      have HF : Hid (v = false) := Hid.mk (by rw [HBT.out, hw]; rfl)
      go_enter Tryz.func10, Tryz.ntmps10
      try dsimp only [List.append]
      go_wp2_with (first | (go_at_call 20; (with_reducible refine (HS2.out _).mono ?_); rintro e' w' ⟨rfl, rfl⟩))
      go_ret
      exact ⟨ret_bool HF.out.symm, blw⟩
    | false =>
    have HBW : Hid (v = (rmay e.rule && erow e.ex && erow e.plus && echg e.changes)) := Hid.mk (by rw [HBT.out, hw]; rfl)
    cases hm : rmay e.rule with
    | false =>
      have HF : Hid (v = false) := Hid.mk (by rw [HBW.out, hm]; rfl)
      rw [hm] at HM
      clear hm
      go_enter Tryz.func10, Tryz.ntmps10
      try dsimp only [List.append]
      go_wp2_with (first | (go_at_call 20; (with_reducible refine (HS2.out _).mono ?_); rintro e' w' ⟨rfl, rfl⟩) | (go_at_call 22; refine (HM.out _ ?_).mono ?_; exact blw; rintro e' w1 ⟨rfl, hb1⟩; have u1 := box_get hb1 13 rfl; have u2 := box_get hb1 14 rfl; have u3 := box_get hb1 15 rfl))
      go_ret
      exact ⟨ret_bool HF.out.symm, bl_step (a := w) blw hb1⟩
    | true =>
    rw [hm] at HM
    have HBM : Hid (v = (erow e.ex && erow e.plus && echg e.changes)) := Hid.mk (by rw [HBW.out, hm]; rfl)
    clear hm
    cases h1 : erow e.ex with
    | false =>
      have HF : Hid (v = false) := Hid.mk (by rw [HBM.out, h1]; rfl)
      rw [h1] at HE
      clear h1
      go_enter Tryz.func10, Tryz.ntmps10
      try dsimp only [List.append]
      go_wp2_with (first | (go_at_call 20; (with_reducible refine (HS2.out _).mono ?_); rintro e' w' ⟨rfl, rfl⟩) | (go_at_call 22; refine (HM.out _ ?_).mono ?_; exact blw; rintro e' w1 ⟨rfl, hb1⟩; have u1 := box_get hb1 13 rfl; have u2 := box_get hb1 14 rfl; have u3 := box_get hb1 15 rfl; have hB1 := bl_step (a := w) blw hb1) | (go_at_call 23; (with_reducible refine (HE.out _ hB1).mono ?_); rintro e' w' ⟨rfl, rfl⟩))
      go_ret
      exact ⟨ret_bool HF.out.symm, hB1⟩
    | true =>
    rw [h1] at HE
    have HB1 : Hid (v = (erow e.plus && echg e.changes)) := Hid.mk (by rw [HBM.out, h1]; rfl)
    clear h1
    cases h2 : erow e.plus with
    | false =>
      have HF : Hid (v = false) := Hid.mk (by rw [HB1.out, h2]; rfl)
      rw [h2] at HP
      clear h2
      go_enter Tryz.func10, Tryz.ntmps10
      try dsimp only [List.append]
      go_wp2_with (first | (go_at_call 20; (with_reducible refine (HS2.out _).mono ?_); rintro e' w' ⟨rfl, rfl⟩) | (go_at_call 22; refine (HM.out _ ?_).mono ?_; exact blw; rintro e' w1 ⟨rfl, hb1⟩; have u1 := box_get hb1 13 rfl; have u2 := box_get hb1 14 rfl; have u3 := box_get hb1 15 rfl; have hB1 := bl_step (a := w) blw hb1) | (go_at_call 23; (with_reducible refine (HE.out _ hB1).mono ?_); clear HE; rintro e' w' ⟨rfl, rfl⟩) | (go_at_call 23; (with_reducible refine (HP.out _ hB1).mono ?_); rintro e' w' ⟨rfl, rfl⟩))
      go_ret
      exact ⟨ret_bool HF.out.symm, hB1⟩
    | true =>
    rw [h2] at HP
    have HF : Hid (v = echg e.changes) := Hid.mk (by rw [HB1.out, h2]; rfl)
    clear h2
    generalize echg e.changes = u at *
    go_enter Tryz.func10, Tryz.ntmps10
    try dsimp only [List.append]
    go_wp2_with (first | (go_at_call 20; (with_reducible refine (HS2.out _).mono ?_); rintro e' w' ⟨rfl, rfl⟩) | (go_at_call 22; refine (HM.out _ ?_).mono ?_; exact blw; rintro e' w1 ⟨rfl, hb1⟩; have u1 := box_get hb1 13 rfl; have u2 := box_get hb1 14 rfl; have u3 := box_get hb1 15 rfl; have hB1 := bl_step (a := w) blw hb1) | (go_at_call 23; (with_reducible refine (HE.out _ hB1).mono ?_); clear HE; rintro e' w' ⟨rfl, rfl⟩) | (go_at_call 23; (with_reducible refine (HP.out _ hB1).mono ?_); rintro e' w' ⟨rfl, rfl⟩) | (go_at_call 24; (with_reducible refine (HC.out _ hB1).mono ?_); rintro e' w2 ⟨rfl, hb2⟩))
    go_ret
    exact ⟨ret_bool HF.out.symm, bl_step hB1 hb2⟩
end Go.Proofs.YthcngkcfopaigaaGreat

namespace Go.Proofs.YthcngkcfopaigaaGreat
open Go.RowKit
theorem snan_c (a : Int) (w : World) : Calls Tryz.prog 100 #[.int .i64 a] w fun e w' => e = .returned (.bool false) ∧ w = w' := by
  go_enter Tryz.func100, Tryz.ntmps100
  go_wp2
  go_ret
  exact ⟨ret_bool (by simp), rfl⟩
theorem less_c (a b : Int) (w : World) : Calls Tryz.prog 99 #[.int .i64 a, .int .i64 b] w fun e w' => e = .returned (.bool (decide (a < b))) ∧ w = w' := by
  by_cases h : a < b
  · have d1 := decide_eq_true h
    rw [d1]
    go_enter Tryz.func99, Tryz.ntmps99
    go_wp2_with (go_at_call 60; refine (isnan_c _ _).mono ?_; rintro e w' ⟨rfl, rfl⟩)
    go_ret
    exact ⟨rfl, rfl⟩
  · have d1 := decide_eq_false h
    rw [d1]
    go_enter Tryz.func99, Tryz.ntmps99
    go_wp2_with (go_at_call 60; refine (isnan_c _ _).mono ?_; rintro e w' ⟨rfl, rfl⟩)
    go_ret
    exact ⟨rfl, rfl⟩
theorem has_at {l : List Int} (hs : ∀ i j, i < j → j < l.length → ig l i < ig l j) {x : Int} {i : Nat} (h1 : ∀ j, j < i → ig l j < x) (h2 : ∀ j, i ≤ j → j < l.length → x ≤ ig l j) (hi : i ≤ l.length) : has l x = (decide (i < l.length) && (ig l i == x)) := by
  by_cases h : i < l.length
  · by_cases e : ig l i = x
    · rw [has_yes h e]; simp [h, e]
    · rw [has_no fun j hj => ?_]
      · simp [e]
      · by_cases h3 : j < i
        · have := h1 j h3; omega
        · by_cases h4 : j = i
          · subst h4; exact e
          · have := h2 i (Nat.le_refl _) h
            have := hs i j (by omega) hj
            omega
  · rw [has_no fun j hj => by have := h1 j (by omega); omega]
    simp [h]
set_option maxHeartbeats 4000000 in
theorem bs_c (a : Option Addr) (cap : Nat) (l : List Int) (x : Int) (w : World) (hr : Ints w a l) (hbig : l.length ≤ 1000000000000) (hs : ∀ i j, i < j → j < l.length → ig l i < ig l j) :
    Calls Tryz.prog 68 #[.slice a l.length cap, .int .i64 x] w fun e w' => (∃ i : Int, e = .returned (.tuple #[.int .i64 i, .bool (has l x)])) ∧ w = w' := by
  have HS := Hid.mk hs
  have HAT := Hid.mk (fun i h1 h2 h3 => has_at hs (x := x) (i := i) h1 h2 h3)
  clear hs
  go_enter Tryz.func68, Tryz.ntmps68
  go_wp2
  go_loop [7, 8] (fun s t => ∃ i j : Nat, i ≤ j ∧ j ≤ l.length ∧ s = .int .i64 i ∧ t = .int .i64 j ∧ (∀ x', x' < i → ig l x' < x) ∧ (∀ x', j ≤ x' → x' < l.length → x ≤ ig l x')) (fun s t => (intOf t).toNat - (intOf s).toNat)
  case atStart => exact ⟨0, l.length, Nat.zero_le _, Nat.le_refl _, rfl, rfl, fun x h => absurd h (Nat.not_lt_zero _), fun x h1 h2 => absurd h2 (by omega)⟩
  case round =>
    obtain ⟨i, j, hij, hj, rfl, rfl, hl, hh⟩ := hrel
    have HLO := Hid.mk hl
    have HHI := Hid.mk hh
    clear hl hh
    by_cases hlt : i < j
    · obtain ⟨b, off, rfl, hcells⟩ := hr.ig (j := i) (by omega)
      have c0 := hcells ((i + j) / 2) (by omega)
      have HR := Hid.mk hr
      clear hcells hr
      generalize hX : ig l ((i + j) / 2) = X at *
      have HX := Hid.mk hX
      clear hX
      by_cases hx : X < x
      · have d1 := decide_eq_true hx
        have HL := Hid.mk (fun w => d1 ▸ less_c X x w)
        clear d1
        go_wp2_with (go_at_call 99; (with_reducible refine (HL.out _).mono ?_); rintro e w' ⟨rfl, rfl⟩)
        go_round
        case rel => exact ⟨(i + j) / 2 + 1, j, by omega, by omega, by go_num, rfl, fun y hy => by (by_cases e : y = (i + j) / 2; subst e; rw [HX.out]; exact hx; have := HS.out y ((i + j) / 2) (by omega) (by omega); rw [HX.out] at this; omega), HHI.out⟩
        case measure => simp [intOf]; omega
      · have d1 := decide_eq_false hx
        have HL := Hid.mk (fun w => d1 ▸ less_c X x w)
        clear d1
        go_wp2_with (go_at_call 99; (with_reducible refine (HL.out _).mono ?_); rintro e w' ⟨rfl, rfl⟩)
        go_round
        case rel => exact ⟨i, (i + j) / 2, by omega, by omega, rfl, by go_num, HLO.out, fun y h1 hy => by (by_cases e : y = (i + j) / 2; subst e; rw [HX.out]; omega; have := HS.out ((i + j) / 2) y (by omega) hy; rw [HX.out] at this; omega)⟩
        case measure => simp [intOf]; omega
    · obtain rfl : i = j := by omega
      have HV := Hid.mk (HAT.out i HLO.out (fun y h1 h2 => HHI.out y h1 h2) hj)
      by_cases hn : i < l.length
      · obtain ⟨b, off, rfl, hcells⟩ := hr.ig hn
        have c0 := hcells i hn
        have HR := Hid.mk hr
        clear hcells hr
        generalize ig l i = X at *
        have d1 : decide (i < l.length) = true := decide_eq_true hn
        cases hx : (X == x) with
        | true =>
          have HF : Hid (has l x = true) := Hid.mk (by rw [HV.out, d1, hx]; rfl)
          go_wp2
          go_ret2
          exact ⟨⟨i, by rw [HF.out]; rfl⟩, rfl⟩
        | false =>
          have HF : Hid (has l x = false) := Hid.mk (by rw [HV.out, d1, hx]; rfl)
          go_wp2_with (go_at_call 100; refine (snan_c _ _).mono ?_; rintro e w' ⟨rfl, rfl⟩)
          go_ret2
          exact ⟨⟨i, by rw [HF.out]; rfl⟩, rfl⟩
      · have d1 : decide (i < l.length) = false := decide_eq_false hn
        have HF : Hid (has l x = false) := Hid.mk (by rw [HV.out, d1]; rfl)
        go_wp2
        go_ret2
        exact ⟨⟨i, by rw [HF.out]; rfl⟩, rfl⟩
theorem ehas_c (a : Option Addr) (cap : Nat) (l : List Int) (x : Int) (w : World) (hr : Ints w a l) (hbig : l.length ≤ 1000000000000) (hs : erow l = true) :
    Calls Tryz.prog 39 #[.slice a l.length cap, .int .i64 x] w fun e w' => e = .returned (.bool (has l x)) ∧ w = w' := by
  have HB := Hid.mk (bs_c a cap l x w hr hbig (fun i j h1 h2 => rising_lt (fun k hk => ((erow_iff.1 hs).1 k hk).2.2) h1 h2))
  clear hr hs
  generalize has l x = v at *
  go_enter Tryz.func39, Tryz.ntmps39
  go_wp2_with (go_at_call 68; refine HB.out.mono ?_; rintro e w' ⟨⟨i, rfl⟩, rfl⟩)
  go_ret
  exact ⟨rfl, rfl⟩
end Go.Proofs.YthcngkcfopaigaaGreat
