/- The walk of EventParts, where what it is asked lies within bounds. -/
import Derived.Test.YthcngkcfopaigaaGreatPartsZ
import Derived.Test.YthcngkcfopaigaaGreatGreatZ
import Derived.Test.YthcngkcfopaigaaGreatK23
import Derived.Deep.RegionHeld3
namespace Go.Proofs.YthcngkcfopaigaaGreat
set_option linter.unusedVariables false
open Go.RowKit
set_option maxRecDepth 100000 in
set_option maxHeartbeats 8000000 in
theorem parts_in (base : Int) (a : Option Addr) (cap : Nat) (ts : List (Int × Int)) (e : EventV) (A : EvA) (f t q : Int) (w : World) (hz : Row 2 encT w a ts) (hea : EvAt w e A) (h1 : decide (50 < (ts.length : Int)) = false) (hg : egreat e = false)
    (g2 : ¬ t ≤ f) (g3 : ¬ f < -1099511627776) (g4 : ¬ 1099511627776 < t) (g5 : ¬ 528480 < t - f) (g6 : ¬ t - f < 2) (hq0 : 0 ≤ q) (hq1 : q < 4294967296) :
    Calls Tryz.prog 5 #[.agg (zoneC base a ts.length cap), .agg (eventC e A), .agg #[.int .i64 f, .int .i64 t], .int .u32 q] w fun y w' => y = .returned (.bool true) ∧ Below w.heap.size w w' := by
  have HF := Hid.mk (fun w => fixed_c w)
  have HG := Hid.mk (fun w => hg ▸ egreat_c e A w)
  have hzl : ts.length ≤ 1000000000000 := by have := of_decide_eq_false h1; omega
  have HM := Hid.mk (fun (w' : World) (hb : Below w.heap.size w w') (f t : Int) => members_c base a cap ts e A f t w' (hz.below hb) hzl (hea.below hb))
  have hcl : e.changes.length ≤ 1000 := by
    simp only [egreat, Bool.or_eq_false_iff, decide_eq_false_iff_not] at hg
    omega
  have hB0 := Below.refl (((w.alloc (.cells (zoneC base a ts.length cap) 24)).alloc (.cells (eventC e A) 32)).alloc (.cells #[.int .i64 f, .int .i64 t] 34)).heap.size (((w.alloc (.cells (zoneC base a ts.length cap) 24)).alloc (.cells (eventC e A) 32)).alloc (.cells #[.int .i64 f, .int .i64 t] 34))
  have hE := (heap3 hB0).2.1
  have h2 := decide_eq_false g2
  have h3 := decide_eq_false g3
  have h4 := decide_eq_false g4
  have h5 := decide_eq_false g5
  have h6 := decide_eq_false g6
  have m1 : 0 ≤ q % (t - f - 1) := Int.emod_nonneg _ (by omega)
  have m2 : q % (t - f - 1) < t - f - 1 := Int.emod_lt_of_pos _ (by omega)
  have i1 := IntWalk.i64_in (n := t - f) (by omega)
  have i2 := IntWalk.i64_in (n := t - f - 1) (by omega)
  have i3 := IntWalk.i64_in (n := f + 1) (by omega)
  have i4 := IntWalk.i64_in (n := q) (by omega)
  clear hz hea
  go_enter Tryz.func5, Tryz.ntmps5
  try dsimp only [List.append]
  go_wp2_with (first | (refine ev_load rfl _ rfl _ rfl hE ?_) | (go_at_call 8; (refine (HG.out _).mono ?_); rintro e' w0 ⟨rfl, hb0⟩; obtain ⟨z1, z2, z3⟩ := heap3 hb0; have u0 := blk_cell z3 0 rfl; have u1 := blk_cell z3 1 rfl; have u2 := blk_cell z1 0 rfl; have u3 := blk_cell z1 1 rfl; have hB1 := bl_step (bl_alloc (bl_alloc (bl_alloc (Below.refl w.heap.size w) _) _) _) hb0; clear hE hB0 hb0))
  go_quiet (fail)
  clear i1 i2 i3 i4 h2 h3 h4 h5 h6 HG
  generalize hM0 : q % (t - f - 1) = M0 at *
  clear hM0
  go_upto_region 5 with (first | (refine ev_load rfl _ rfl _ rfl z2 ?_) | (go_at_call 13; (refine (HM.out _ (bl_drewN hB1 _) f t).mono ?_); rintro e' w2 ⟨⟨v, rfl, ho⟩, hb⟩; have z4 := blk_below (blk_drewN z1 _) hb; have z5 := blk_below (blk_drewN z2 _) hb; have z6 := blk_below (blk_drewN z3 _) hb; have hB2 := bl_step (bl_drewN hB1 _) hb; obtain ⟨a0, cap0, rfl, hrow⟩ := owns_row ho; clear z1 z2 z3 u0 u1 u2 u3 hb hB1 ho))
  have HW := Hid.mk hrow
  clear hrow
  have HMB := Hid.mk (show f < f + 1 + M0 ∧ f + 1 + M0 < t by omega)
  have hlen0 := emembers_length (base := base) (ts := ts) (f := f) (t := t) hcl
  have HPC := Hid.mk (parts_count (base := base) (ts := ts) (e := e) HMB.out.1 HMB.out.2 (by omega) (by omega) (by omega))
  have HPL := Hid.mk (parts_left (base := base) (ts := ts) (e := e) HMB.out.1 HMB.out.2 (by omega) (by omega) (by omega))
  have HIN := Hid.mk (fun s hs => emembers_in (base := base) (ts := ts) (e := e) (f := f) (t := t) (s := s) hs)
  have HSO := Hid.mk (emembers_sorted base ts e f t)
  generalize hmd : f + 1 + M0 = m at *
  clear hmd
  generalize hWL : emembers base ts e f t = WL at *
  clear hWL
  go_cut [11, 12] from 78 to 90 (fun v1 v2 wx => OwnS wx w2.heap.size v1 (emembers base ts e f m) ∧ OwnS wx w2.heap.size v2 (emembers base ts e m t) ∧ Below w2.heap.size w2 wx)
  case first =>
    as_aux_lemma =>
      have SK := Hid.mk (fun (w' : World) (hb' : Below w2.heap.size w2 w') => show (fun w' => Below w2.heap.size w2 w' ∧ w'.cell? ⟨w.heap.size, 0, none⟩ = some (.int .i64 base) ∧ w'.cell? ⟨w.heap.size, 1, none⟩ = some (.slice a ts.length cap) ∧ w'.cell? ⟨w.heap.size + 1, 0, none⟩ = some (.int .i64 e.start) ∧ w'.cell? ⟨w.heap.size + 1, 1, none⟩ = some (.int .i64 e.long) ∧ w'.cell? ⟨w.heap.size + 1, 2, none⟩ = some (.bool e.world) ∧ w'.cell? ⟨w.heap.size + 1, 3, none⟩ = some (.bool e.again) ∧ w'.cell? ⟨w.heap.size + 1, 4, none⟩ = some (.int .i64 e.rule.freq) ∧ w'.cell? ⟨w.heap.size + 1, 5, none⟩ = some (.int .i64 e.rule.interval) ∧ w'.cell? ⟨w.heap.size + 1, 6, none⟩ = some (.int .i64 e.rule.count) ∧ w'.cell? ⟨w.heap.size + 1, 7, none⟩ = some (.int .i64 e.rule.till) ∧ w'.cell? ⟨w.heap.size + 1, 8, none⟩ = some (.slice A.a1 e.rule.byMonth.length A.c1) ∧ w'.cell? ⟨w.heap.size + 1, 9, none⟩ = some (.slice A.a2 e.rule.byMonthDay.length A.c2) ∧ w'.cell? ⟨w.heap.size + 1, 10, none⟩ = some (.slice A.a3 e.rule.byDay.length A.c3) ∧ w'.cell? ⟨w.heap.size + 1, 11, none⟩ = some (.slice A.a4 e.rule.bySetPos.length A.c4) ∧ w'.cell? ⟨w.heap.size + 1, 12, none⟩ = some (.int .i64 e.rule.start) ∧ w'.cell? ⟨w.heap.size + 1, 13, none⟩ = some (.slice A.e1 e.ex.length A.d1) ∧ w'.cell? ⟨w.heap.size + 1, 14, none⟩ = some (.slice A.e2 e.plus.length A.d2) ∧ w'.cell? ⟨w.heap.size + 1, 15, none⟩ = some (.slice A.e3 e.changes.length A.d3) ∧ w'.cell? ⟨w.heap.size + 1 + 1, 0, none⟩ = some (.int .i64 f) ∧ w'.cell? ⟨w.heap.size + 1 + 1, 1, none⟩ = some (.int .i64 t)) w' from ⟨hb', blk_cell (blk_below z4 hb') 0 rfl, blk_cell (blk_below z4 hb') 1 rfl, blk_cell (blk_below z5 hb') 0 rfl, blk_cell (blk_below z5 hb') 1 rfl, blk_cell (blk_below z5 hb') 2 rfl, blk_cell (blk_below z5 hb') 3 rfl, blk_cell (blk_below z5 hb') 4 rfl, blk_cell (blk_below z5 hb') 5 rfl, blk_cell (blk_below z5 hb') 6 rfl, blk_cell (blk_below z5 hb') 7 rfl, blk_cell (blk_below z5 hb') 8 rfl, blk_cell (blk_below z5 hb') 9 rfl, blk_cell (blk_below z5 hb') 10 rfl, blk_cell (blk_below z5 hb') 11 rfl, blk_cell (blk_below z5 hb') 12 rfl, blk_cell (blk_below z5 hb') 13 rfl, blk_cell (blk_below z5 hb') 14 rfl, blk_cell (blk_below z5 hb') 15 rfl, blk_cell (blk_below z6 hb') 0 rfl, blk_cell (blk_below z6 hb') 1 rfl⟩)
      clear z4 z5 z6
      have HM2 : Hid (∀ (w' : World), Below w2.heap.size w2 w' → ∀ (f t : Int), Calls Tryz.prog 13 #[.agg (zoneC base a ts.length cap), .agg (eventC e A), .agg #[.int .i64 f, .int .i64 t]] w' fun y w'' => (∃ v, y = .returned v ∧ OwnS w'' w2.heap.size v (emembers base ts e f t)) ∧ Below w2.heap.size w2 w'' ∧ Below w'.heap.size w' w'') :=
        Hid.mk (fun w' hb' f t => (HM.out w' (bl_step hB2 hb') f t).mono (fun y w'' ⟨⟨v, hv, ho⟩, hb⟩ => ⟨⟨v, hv, owns_base ho hb'.size⟩, bl_step hb' hb, hb⟩))
      clear HM
      go_region_held3 (fun w' => Below w2.heap.size w2 w' ∧ w'.cell? ⟨w.heap.size, 0, none⟩ = some (.int .i64 base) ∧ w'.cell? ⟨w.heap.size, 1, none⟩ = some (.slice a ts.length cap) ∧ w'.cell? ⟨w.heap.size + 1, 0, none⟩ = some (.int .i64 e.start) ∧ w'.cell? ⟨w.heap.size + 1, 1, none⟩ = some (.int .i64 e.long) ∧ w'.cell? ⟨w.heap.size + 1, 2, none⟩ = some (.bool e.world) ∧ w'.cell? ⟨w.heap.size + 1, 3, none⟩ = some (.bool e.again) ∧ w'.cell? ⟨w.heap.size + 1, 4, none⟩ = some (.int .i64 e.rule.freq) ∧ w'.cell? ⟨w.heap.size + 1, 5, none⟩ = some (.int .i64 e.rule.interval) ∧ w'.cell? ⟨w.heap.size + 1, 6, none⟩ = some (.int .i64 e.rule.count) ∧ w'.cell? ⟨w.heap.size + 1, 7, none⟩ = some (.int .i64 e.rule.till) ∧ w'.cell? ⟨w.heap.size + 1, 8, none⟩ = some (.slice A.a1 e.rule.byMonth.length A.c1) ∧ w'.cell? ⟨w.heap.size + 1, 9, none⟩ = some (.slice A.a2 e.rule.byMonthDay.length A.c2) ∧ w'.cell? ⟨w.heap.size + 1, 10, none⟩ = some (.slice A.a3 e.rule.byDay.length A.c3) ∧ w'.cell? ⟨w.heap.size + 1, 11, none⟩ = some (.slice A.a4 e.rule.bySetPos.length A.c4) ∧ w'.cell? ⟨w.heap.size + 1, 12, none⟩ = some (.int .i64 e.rule.start) ∧ w'.cell? ⟨w.heap.size + 1, 13, none⟩ = some (.slice A.e1 e.ex.length A.d1) ∧ w'.cell? ⟨w.heap.size + 1, 14, none⟩ = some (.slice A.e2 e.plus.length A.d2) ∧ w'.cell? ⟨w.heap.size + 1, 15, none⟩ = some (.slice A.e3 e.changes.length A.d3) ∧ w'.cell? ⟨w.heap.size + 1 + 1, 0, none⟩ = some (.int .i64 f) ∧ w'.cell? ⟨w.heap.size + 1 + 1, 1, none⟩ = some (.int .i64 t)) (first | exact SK.out _ (by assumption) | exact SK.out _ (Below.refl _ _).drew | exact SK.out _ (bl_drewN (Below.refl _ _) _)) (first | (go_at_call 13; (with_reducible refine (HM2.out _ ?_ f m).mono ?_); (first | assumption | exact (Below.refl _ _).drew | exact Below.drew (by assumption) | exact bl_drewN (Below.refl _ _) _); rintro e' wl ⟨⟨vl, rfl, hOl⟩, hBl, hbl⟩) | (go_at_call 13; (with_reducible refine (HM2.out _ ?_ m t).mono ?_); (first | assumption | exact (Below.refl _ _).drew | exact Below.drew (by assumption) | exact bl_drewN (Below.refl _ _) _); rintro e' wr ⟨⟨vr, rfl, hOr⟩, hBr, hbr⟩))
      all_goals
        clear SK HM2
        go_wp2
        go_meet
        case rel => first | exact ⟨owns_below hOl hbr, hOr, hBr⟩ | exact ⟨hOl, owns_below hOr hbl, hBl⟩
  case rest =>
    obtain ⟨ho1, ho2, hBc⟩ := hcut
    obtain ⟨al, cl, rfl, hrl⟩ := owns_row ho1
    obtain ⟨ar, cr, rfl, hrr⟩ := owns_row ho2
    have HRL := Hid.mk hrl
    have hBW := bl_step hB2 hBc
    have z7 := blk_below z6 hBc
    clear ho1 ho2 hrl hrr HM z4 z5
    generalize emembers base ts e f m = LL at *
    generalize emembers base ts e m t = RL at *
    go_wp2
    go_loopw [13, 14, 94] (fun s13 s14 i wr => ∃ k : Nat, k ≤ WL.length ∧ i = .int .i64 k ∧ s14 = .int .i64 (((WL.take k).filter (across m)).length : Int) ∧ OwnS wr wc.heap.size s13 ((WL.take k).filter (ahead m)) ∧ Below wc.heap.size wc wr) (fun _ _ i _ => WL.length - (intOf i).toNat)
    case atStart => exact ⟨0, Nat.zero_le _, rfl, rfl, owns_nil _ _, Below.refl _ _⟩
    case round =>
      obtain ⟨k, k1, rfl, rfl, ho, hB'⟩ := hrel
      by_cases hlt : k < WL.length
      · obtain ⟨b, off, rfl, hcells⟩ := (HW.out.below (bl_step hBc hB')).get hlt
        obtain ⟨c0, c1⟩ := row_x hcells hlt
        have hbz := block_lt c0
        have HFA := Hid.mk (filter_snoc hlt (ahead m))
        have HFC := Hid.mk (filter_snoc hlt (across m))
        have HO := Hid.mk ho
        have hl1 : ((WL.take k).filter (ahead m)).length ≤ 1000000 := Nat.le_trans (List.length_filter_le _ _) (by rw [List.length_take]; omega)
        have hl2 : ((WL.take k).filter (across m)).length ≤ 1000000 := Nat.le_trans (List.length_filter_le _ _) (by rw [List.length_take]; omega)
        clear ho hcells
        generalize xa WL k = X at *
        generalize xb WL k = Y at *
        generalize hys : (WL.take k).filter (ahead m) = ys at *
        generalize hcs : (WL.take k).filter (across m) = zs at *
        clear hys hcs
        have hc : (¬ X < m) ∨ (X < m ∧ ¬ m < Y) ∨ (X < m ∧ m < Y) := by omega
        rcases hc with g | ⟨g, g'⟩ | ⟨g, g'⟩
        · have d1 := decide_eq_false g
          have HA1 : Hid ((WL.take (k + 1)).filter (ahead m) = ys) := Hid.mk (by rw [HFA.out, if_neg (by simpa [ahead] using g)]; simp)
          have HC1 : Hid ((WL.take (k + 1)).filter (across m) = zs) := Hid.mk (by rw [HFC.out, if_neg (by simp [across]; omega)]; simp)
          go_wp2
          go_roundw
          case rel => exact ⟨k + 1, by omega, by go_num, by rw [HC1.out], by rw [HA1.out]; exact HO.out.alloc _, bl_alloc hB' _⟩
          case measure => simp [intOf]; omega
        · have d1 := decide_eq_true g
          have d2 := decide_eq_false g'
          have HA1 : Hid ((WL.take (k + 1)).filter (ahead m) = ys ++ [(X, Y)]) := Hid.mk (by rw [HFA.out, if_pos (by simpa [ahead] using g)])
          have HC1 : Hid ((WL.take (k + 1)).filter (across m) = zs) := Hid.mk (by rw [HFC.out, if_neg (by simp [across]; omega)]; simp)
          go_wp2_with (at_builtin; refine owns_append Tryz.underlying38 rfl _ _ rfl wc.heap.size _ ys X Y _ rfl ?c1 rfl ?c2 ?c3 ?c4 ?_)
          case c1 => exact (HO.out.alloc _).alloc _
          case c2 => exact (Array.getElem?_eq_some_iff.1 (blk_new2 _ _ _)).2
          case c3 => omega
          case c4 => have := hB'.size; simp; omega
          intro v' w4 ho4 hb4
          go_wp2
          go_roundw
          case rel => exact ⟨k + 1, by omega, by go_num, by rw [HC1.out], by rw [HA1.out]; exact ho4, (bl_alloc (a := wc) (bl_alloc (a := wc) hB' _) _).trans hb4⟩
          case measure => simp [intOf]; omega
        · have d1 := decide_eq_true g
          have d2 := decide_eq_true g'
          have HA1 : Hid ((WL.take (k + 1)).filter (ahead m) = ys ++ [(X, Y)]) := Hid.mk (by rw [HFA.out, if_pos (by simpa [ahead] using g)])
          have HC1 : Hid ((WL.take (k + 1)).filter (across m) = zs ++ [(X, Y)]) := Hid.mk (by rw [HFC.out, if_pos (by simp [across]; omega)])
          go_wp2_with (at_builtin; refine owns_append Tryz.underlying38 rfl _ _ rfl wc.heap.size _ ys X Y _ rfl ?c1 rfl ?c2 ?c3 ?c4 ?_)
          case c1 => exact (HO.out.alloc _).alloc _
          case c2 => exact (Array.getElem?_eq_some_iff.1 (blk_new2 _ _ _)).2
          case c3 => omega
          case c4 => have := hB'.size; simp; omega
          intro v' w4 ho4 hb4
          go_wp2
          go_roundw
          case rel => exact ⟨k + 1, by omega, by go_num, by rw [HC1.out]; simp, by rw [HA1.out]; exact ho4, (bl_alloc (a := wc) (bl_alloc (a := wc) hB' _) _).trans hb4⟩
          case measure => simp [intOf]; omega
      · obtain rfl : k = WL.length := by omega
        rw [List.take_length] at *
        obtain ⟨ao, co, rfl, hro⟩ := owns_row ho
        have hll : LL.length ≤ 1000000 := by rw [HPL.out]; exact Nat.le_trans (List.length_filter_le _ _) hlen0
        have hcl2 : (WL.filter (across m)).length ≤ 1000000 := Nat.le_trans (List.length_filter_le _ _) hlen0
        have hol : (WL.filter (ahead m)).length ≤ 1000000 := Nat.le_trans (List.length_filter_le _ _) hlen0
        have hrl : RL.length ≤ 3000000 := by have := HPC.out; omega
        have hne : (((LL.length : Int) + (RL.length : Int)) != ((WL.length : Int) + ((WL.filter (across m)).length : Int))) = false := by
          have := HPC.out
          simp only [bne_eq_false_iff_eq]
          omega
        have hB3 := bl_step hBc hB'
        have HSM := Hid.mk (show Calls _ _ _ _ _ from (decide_eq_true HPL.out ▸ sames_c al ao cl co LL (WL.filter (ahead m)) wr (HRL.out.below hB') hro (by omega) (by omega)))
        have HRW := Hid.mk (fun w' (hb : Below w2.heap.size w2 w') => HW.out.below hb)
        have HRC := Hid.mk (fun w' (hb : Below w2.heap.size w2 w') => blk_below z6 hb)
        clear hro ho HRL HPC HPL HW z6 z7 hlt
        generalize WL.filter (across m) = CL at *
        generalize WL.filter (ahead m) = OL at *
        go_wp2_with (go_at_call 12; (refine HSM.out.mono ?_); rintro e' w5 ⟨rfl, hb5⟩; have hB5 := bl_step hB3 hb5)
        clear HSM hB3 hB' hb5
        go_loopw [137] (fun i wr => ∃ k : Nat, k ≤ WL.length ∧ i = .int .i64 k ∧ Below w2.heap.size w2 wr) (fun i _ => WL.length - (intOf i).toNat)
        case atStart => exact ⟨0, Nat.zero_le _, rfl, hB5⟩
        case round =>
          obtain ⟨k, k1, rfl, hB6⟩ := hrel
          by_cases hlt : k < WL.length
          · obtain ⟨b, off, rfl, hcells⟩ := (HRW.out _ hB6).get hlt
            obtain ⟨c0, c1⟩ := row_x hcells hlt
            obtain ⟨p0, p1⟩ := row_x hcells (k := k - 1) (by omega)
            have hbz := block_lt c0
            have hin := HIN.out _ (x_mem hlt)
            have q0 := blk_cell (HRC.out _ hB6) 0 rfl
            have q1 := blk_cell (HRC.out _ hB6) 1 rfl
            have hoz := block_lt q0
            have HORD := Hid.mk (fun h0 => x_order HSO.out hlt h0)
            clear hcells
            generalize xa WL k = X at *
            generalize xb WL k = Y at *
            generalize xa WL (k - 1) = PX at *
            generalize xb WL (k - 1) = PY at *
            obtain ⟨x1, x2, x3⟩ := hin
            have y1 : decide (t ≤ X) = false := decide_eq_false (by have : X < t := x1; omega)
            have y2 : decide (Y ≤ f) = false := decide_eq_false (by have : f < Y := x2; omega)
            have y3 : decide (Y ≤ X) = false := decide_eq_false (by have : X < Y := x3; omega)
            have iw := IntWalk.i64_in (n := (k : Int) - 1) (by omega)
            have hc : (k = 0) ∨ (0 < k ∧ PX < X) ∨ (0 < k ∧ PX = X ∧ PY ≤ Y) := by
              by_cases h0 : k = 0
              · exact .inl h0
              · rcases HORD.out (by omega) with h | h
                · exact .inr (.inl ⟨by omega, h⟩)
                · exact .inr (.inr ⟨by omega, h⟩)
            clear HORD
            rcases hc with rfl | ⟨h0, hp⟩ | ⟨h0, rfl, hp⟩
            · have e1 : decide (0 < (0 : Int)) = false := rfl
              clear p0 p1
              simp only [Nat.zero_mul, Nat.add_zero] at c0 c1
              go_wp2
              go_quiet (fail)
              go_wp2
              go_roundw
              case rel => exact ⟨1, by omega, by go_num, bl_drewN (bl_alloc hB6 _) _⟩
              case measure => simp [intOf]; omega
            · have e1 : decide (0 < k) = true := decide_eq_true h0
              have e2 : decide (0 < (k : Int)) = true := decide_eq_true (by omega)
              have e3 : decide (X < PX) = false := decide_eq_false (by omega)
              have e4 : (PX == X) = false := beq_eq_false_iff_ne.2 (by omega)
              have n1 : (0 : Int) ≤ (k : Int) - 1 := by omega
              have n2 : (k : Int) - 1 < (WL.length : Int) := by omega
              have n3 : ((k : Int) - 1).toNat = k - 1 := by omega
              go_wp2
              go_quiet (fail)
              go_wp2
              go_roundw
              case rel => exact ⟨k + 1, by omega, by go_num, bl_drewN (bl_alloc hB6 _) _⟩
              case measure => simp [intOf]; omega
            · have e1 : decide (0 < k) = true := decide_eq_true h0
              have e2 : decide (0 < (k : Int)) = true := decide_eq_true (by omega)
              have e3 : decide (Y < PY) = false := decide_eq_false (by omega)
              have n1 : (0 : Int) ≤ (k : Int) - 1 := by omega
              have n2 : (k : Int) - 1 < (WL.length : Int) := by omega
              have n3 : ((k : Int) - 1).toNat = k - 1 := by omega
              go_wp2
              go_quiet (fail)
              go_wp2
              go_roundw
              case rel => exact ⟨k + 1, by omega, by go_num, bl_drewN (bl_alloc hB6 _) _⟩
              case measure => simp [intOf]; omega
          · obtain rfl : k = WL.length := by omega
            go_wp2_with (go_at_call 9; (refine (HF.out _).mono ?_); rintro e' w7 ⟨rfl, hb7⟩)
            go_ret
            exact ⟨rfl, bl_step hB2 (bl_step hB6 hb7)⟩
end Go.Proofs.YthcngkcfopaigaaGreat
