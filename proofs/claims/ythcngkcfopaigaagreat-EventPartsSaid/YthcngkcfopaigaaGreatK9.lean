/- The walks of a walker's functions: the days of a stretch.
The walks of a walker's functions: the days of a month. -/
import Derived.Test.YthcngkcfopaigaaGreatK7
import Derived.Test.YthcngkcfopaigaaGreatK8
import Derived.Test.YthcngkcfopaigaaGreatK2
namespace Go.Proofs.YthcngkcfopaigaaGreat
open Go.RowKit
theorem own_below {w w' : World} {b : Nat} {e : TypeId} {v : Value} {xs : List Int} (h : Own w b e v xs) (hb : Below w.heap.size w w') : Own w' b e v xs :=
  ⟨h.1, h.2.imp id (fun ⟨g, cap, cur, h1, h2, h3, h4⟩ => ⟨g, cap, cur, h1, h2, blk_below h3 hb, h4⟩)⟩
theorem Own.alloc {w : World} {b : Nat} {e : TypeId} {v : Value} {xs : List Int} (h : Own w b e v xs) (o : Obj) : Own (w.alloc o) b e v xs := World.ownsRow.alloc h o
theorem days_step {f : Int → Bool} {a n : Int} (h0 : 0 ≤ n) (h1 : n < 109938) (ha : a ≤ n) : daysIn f (clip a) (clip (n + 1)) = daysIn f (clip a) (clip n) ++ (if f n then [n] else []) := by
  have e1 : clip (n + 1) = n + 1 := by unfold clip; omega
  have e2 : clip n = n := by unfold clip; omega
  have e3 : clip a ≤ n := by unfold clip; omega
  rw [e1, e2, daysIn_snoc e3]
set_option maxRecDepth 100000 in
set_option maxHeartbeats 4000000 in
theorem days_c (w0 w : World) (p : Nat) (r : RuleV) (a1 : Option Addr) (c1 : Nat) (a2 : Option Addr) (c2 : Nat) (a3 : Option Addr) (c3 : Nat) (a4 : Option Addr) (c4 : Nat) (s mi a m : Int) (v : Value) (xs : List Int)
    (hw : WkAt w0 p r a1 c1 a2 c2 a3 c3 a4 c4 s mi) (hs0 : 0 ≤ s) (hs1 : s < 109938) (hB : Below w0.heap.size w0 w) (hown : Own w w0.heap.size 3 v xs) (hxs : xs.length ≤ 100000000)
    (ha0 : -1000 ≤ a) (ha1 : a ≤ 100000000) (hm0 : 0 ≤ m) (hm1 : m ≤ 366) :
    Calls Tryz.prog 132 #[.pointer (some ⟨p, 0, none⟩), v, .int .i64 a, .int .i64 m] w fun e w' =>
      ∃ v', e = .returned v' ∧ Own w' w0.heap.size 3 v' (xs ++ daysIn (good r s) (clip a) (clip (a + m))) ∧ Below w0.heap.size w0 w' := by
  go_enter Tryz.func132, Tryz.ntmps132
  try dsimp only [List.append]
  go_wp2
  all_goals
    go_loopw [1, 9] (fun sl nn wr => ∃ (n : Int) (ys : List Int), max a 0 ≤ n ∧ n ≤ max (max a 0) (a + m) ∧ nn = .int .i64 n ∧ Own wr w0.heap.size 3 sl (xs ++ ys) ∧ ys = daysIn (good r s) (clip a) (clip n) ∧ (ys.length : Int) ≤ n - max a 0 ∧ Below w0.heap.size w0 wr) (fun _ nn _ => (a + m - intOf nn).toNat)
    case atStart =>
      refine ⟨_, [], ?_, ?_, rfl, by rw [List.append_nil]; exact hown, ?_, ?_, hB⟩
      · omega
      · omega
      · exact (daysIn_nil (by unfold clip; omega)).symm
      · simp; omega
    case round =>
      obtain ⟨n, ys, hn, hn2, rfl, ho, hys, hlen, hB'⟩ := hrel
      by_cases hlt : n < a + m
      · by_cases hcal : n < 109938
        · have HO := Hid.mk ho
          have HYS := Hid.mk hys
          have HDt := Hid.mk (date_c n wr (by omega) hcal)
          rw [dateV_eq] at HDt
          have HR := Hid.mk (fun w' (hb : Below wr.heap.size wr w') => right_c w' p r a1 c1 a2 c2 a3 c3 a4 c4 s mi n (hw.below (bl_step hB' hb)) (by omega) hcal)
          have HU := Hid.mk (fun w' (hb : Below wr.heap.size wr w') => usual_c w' p r a1 c1 a2 c2 a3 c3 a4 c4 s mi n (hw.below (bl_step hB' hb)) (by omega) hcal hs0 hs1)
          rw [dateV_eq] at HR HU
          clear ho hys
          cases hr : rright r n with
          | false =>
            rw [hr] at HR
            have HG : Hid (good r s n = false) := by unfold Hid good; rw [hr]; rfl
            clear hr
            go_wp2_with (first | (go_at_call 101; (refine HDt.out.mono ?_); rintro e w' ⟨rfl, hb'⟩) | (go_at_call 137; (with_reducible refine (HR.out _ blw).mono ?_); rintro e w'' ⟨rfl, hb''⟩))
            have hB2 := bl_step hB' hb'
            go_roundw
            case rel =>
              have := HYS.out
              exact ⟨n + 1, ys, by omega, by omega, by go_num, own_below HO.out (bl_step (a := wr) blw hb''), by rw [days_step (by omega) hcal (by omega), HG.out, ← HYS.out]; simp, by omega, bl_step (a := w0) blw hb''⟩
            case measure => simp [intOf]; omega
          | true =>
            rw [hr] at HR
            cases hu : rusual r s n with
            | false =>
              rw [hu] at HU
              have HG : Hid (good r s n = false) := by unfold Hid good; rw [hr, hu]; rfl
              clear hr hu
              go_wp2_with (first | (go_at_call 101; (refine HDt.out.mono ?_); rintro e w' ⟨rfl, hb'⟩; have hB2 := bl_step hB' hb') | (go_at_call 137; (with_reducible refine (HR.out _ blw).mono ?_); rintro e w'' ⟨rfl, hb''⟩; have hX1 := bl_step (a := wr) blw hb''; have hX2 := bl_step (a := w0) blw hb''; have q0 := box_get hb'' 0 rfl; have q1 := box_get hb'' 1 rfl; have q2 := box_get hb'' 2 rfl) | (go_at_call 138; (with_reducible refine (HU.out _ blw).mono ?_); rintro e w3 ⟨rfl, hb3⟩; have hY1 := bl_step (a := wr) blw hb3; have hY2 := bl_step (a := w0) blw hb3))
              go_roundw
              case rel =>
                exact ⟨n + 1, ys, by omega, by omega, by go_num, own_below HO.out (bl_step (a := wr) blw hb3), by rw [days_step (by omega) hcal (by omega), HG.out, ← HYS.out]; simp, by omega, bl_step (a := w0) blw hb3⟩
              case measure => simp [intOf]; omega
            | true =>
              rw [hu] at HU
              have HG : Hid (good r s n = true) := by unfold Hid good; rw [hr, hu]; rfl
              clear hr hu
              go_wp2_with (first | (go_at_call 101; (refine HDt.out.mono ?_); rintro e w' ⟨rfl, hb'⟩; have hB2 := bl_step hB' hb') | (go_at_call 137; (with_reducible refine (HR.out _ blw).mono ?_); rintro e w'' ⟨rfl, hb''⟩; have hX1 := bl_step (a := wr) blw hb''; have hX2 := bl_step (a := w0) blw hb''; have q0 := box_get hb'' 0 rfl; have q1 := box_get hb'' 1 rfl; have q2 := box_get hb'' 2 rfl) | (go_at_call 138; (with_reducible refine (HU.out _ blw).mono ?_); rintro e w3 ⟨rfl, hb3⟩; have hY1 := bl_step (a := wr) blw hb3; have hY2 := bl_step (a := w0) blw hb3; have HO3 := Hid.mk (own_below HO.out hY1)) | (at_builtin; refine own_append info_int Tryz.underlying25 rfl _ _ rfl w0.heap.size _ (xs ++ ys) n _ rfl ?c1 rfl ?c2 ?c3 ?c4 ?_))
              case c1 => exact HO3.out.alloc _
              case c2 => rw [World.cell?_alloc_at _ _ _ _ (by simp)]; rfl
              case c3 => rw [List.length_append]; omega
              case c4 => have := hY2.size; simp; omega
              intro v' w4 ho4 hb4
              have hz4 := (bl_alloc (a := w0) hY2 (.cells #[.int .i64 n] 3)).trans hb4
              go_wp2
              go_roundw
              case rel =>
                exact ⟨n + 1, ys ++ [n], by omega, by omega, by go_num, by first | exact ho4 | (rw [List.append_assoc] at ho4; exact ho4) | (rw [← List.append_assoc]; exact ho4), by rw [days_step (by omega) hcal (by omega), HG.out, ← HYS.out]; simp, by rw [List.length_append, List.length_singleton]; omega, hz4⟩
              case measure => simp [intOf]; omega
        · first
          | (exfalso; omega)
          | (have HO := Hid.mk ho
             have HYS := Hid.mk hys
             obtain ⟨z1, z2, z3, HDt⟩ : ∃ z1 z2 z3 : Int, Hid (Calls Tryz.prog 101 #[.int .i64 n] wr fun e w' => e = .returned (.tuple #[.agg #[.int .i64 z1, .int .i64 z2, .int .i64 z3], .bool false]) ∧ Below wr.heap.size wr w') := ⟨0, 0, 0, Hid.mk (date_no n wr (.inr (by omega)))⟩
             clear ho hys
             go_wp2_with (first | (go_at_call 101; (refine HDt.out.mono ?_); rintro e w' ⟨rfl, hb'⟩; have hB2 := bl_step hB' hb'))
             go_roundw
             case rel =>
               have e : clip (n + 1) = clip n := by unfold clip; omega
               exact ⟨n + 1, ys, by omega, by omega, by go_num, own_below HO.out (bl_step (a := wr) blw (Below.refl _ _)), by rw [e]; exact HYS.out, by omega, blw⟩
             case measure => simp [intOf]; omega)
      · have HYS := Hid.mk hys
        clear hys
        go_wp2
        go_ret
        refine ⟨_, rfl, ?_, hB'⟩
        have e : clip n = clip (a + m) := by unfold clip; omega
        rw [← e, ← HYS.out]; exact ho
end Go.Proofs.YthcngkcfopaigaaGreat

namespace Go.Proofs.YthcngkcfopaigaaGreat
open Go.RowKit
set_option maxRecDepth 100000 in
set_option maxHeartbeats 4000000 in
theorem month_c (w0 w : World) (p : Nat) (r : RuleV) (a1 : Option Addr) (c1 : Nat) (a2 : Option Addr) (c2 : Nat) (a3 : Option Addr) (c3 : Nat) (a4 : Option Addr) (c4 : Nat) (s mi y m : Int) (v : Value) (xs : List Int)
    (hw : WkAt w0 p r a1 c1 a2 c2 a3 c3 a4 c4 s mi) (hs0 : 0 ≤ s) (hs1 : s < 109938) (hB : Below w0.heap.size w0 w) (hown : Own w w0.heap.size 3 v xs) (hxs : xs.length ≤ 10000000)
    (hy0 : 1900 ≤ y) (hy1 : y ≤ 200000) (hm1 : 1 ≤ m) (hm2 : m ≤ 12) :
    Calls Tryz.prog 134 #[.pointer (some ⟨p, 0, none⟩), v, .int .i64 y, .int .i64 m] w fun e w' =>
      ∃ v', e = .returned v' ∧ Own w' w0.heap.size 3 v' (xs ++ mdays r s y m) ∧ Below w0.heap.size w0 w' := by
  have HN := number_c y m 1 w
  have k0 : w.cell? ⟨p, 0, none⟩ = some (.int .i64 r.freq) := (hw.below hB).cell 0 _ rfl
  have k1 : w.cell? ⟨p, 1, none⟩ = some (.int .i64 r.interval) := (hw.below hB).cell 1 _ rfl
  have k2 : w.cell? ⟨p, 2, none⟩ = some (.int .i64 r.count) := (hw.below hB).cell 2 _ rfl
  have k4 : w.cell? ⟨p, 4, none⟩ = some (.slice a1 r.byMonth.length c1) := (hw.below hB).cell 4 _ rfl
  have hp := block_lt k0
  have n1 := hw.rule.b1
  by_cases hy : y ≤ 2200
  · have hv : dmay y m 1 = true := (dmay_iff _ _ _).2 ⟨hy0, hy, hm1, hm2, by omega, by have := mlen_in y m hm1 hm2; omega⟩
    rw [hv, if_pos rfl] at HN
    have hbd := mon_bd hy0 hy1 hm1 hm2
    have hlen := mlen_le y m
    have HM := Hid.mk (fun w' (hb : Below w.heap.size w w') => contains_c a1 c1 r.byMonth m w' ((hw.below hB).rule.below hb).r1 (by omega))
    have HL := Hid.mk (fun w' => length_c y m w' (by omega) (by omega))
    have HD := Hid.mk (fun w' (hb : Below w.heap.size w w') => days_c w0 w' p r a1 c1 a2 c2 a3 c3 a4 c4 s mi (dnum y m 1) (mlen y m) v xs hw hs0 hs1 (bl_step hB hb) (own_below hown hb) (by omega) (by omega) (by omega) (by omega) (by omega))
    have HZ := Hid.mk (show mdays r s y m = daysIn (good r s) (clip (dnum y m 1)) (clip (dnum y m 1 + mlen y m)) from rfl)
    have HO := Hid.mk hown
    have HNO := Hid.mk (fun h1 h2 => mdays_not (r := r) (s := s) (y := y) hm1 hm2 h1 h2)
    clear hown hv hw
    generalize dnum y m 1 = F at *
    generalize mlen y m = L at *
    have HNN := Hid.mk HN
    clear HN
    by_cases g : 0 < (r.byMonth.length : Int)
    · have e1 := decide_eq_true g
      have e2 : decide (0 < r.byMonth.length) = true := decide_eq_true (by omega)
      cases hh : has r.byMonth m with
      | false =>
        rw [hh] at HM
        have HE := Hid.mk (HNO.out (by omega) hh)
        clear hh
        go_enter Tryz.func134, Tryz.ntmps134
        try dsimp only [List.append]
        go_wp2_with (first | (go_at_call 139; (refine HNN.out.mono ?_); rintro e w1 ⟨rfl, hb1⟩; have k4' := below_get hb1 k4) | (go_at_call 135; (with_reducible refine (HM.out _ hb1).mono ?_); rintro e w' ⟨rfl, rfl⟩))
        go_ret
        exact ⟨_, rfl, by rw [HE.out, List.append_nil]; exact own_below HO.out hb1, bl_step hB hb1⟩
      | true =>
        rw [hh] at HM
        clear hh
        go_enter Tryz.func134, Tryz.ntmps134
        try dsimp only [List.append]
        go_wp2_with (first | (go_at_call 139; (refine HNN.out.mono ?_); rintro e w1 ⟨rfl, hb1⟩; have k4' := below_get hb1 k4) | (go_at_call 135; (with_reducible refine (HM.out _ hb1).mono ?_); rintro e w' ⟨rfl, rfl⟩) | (go_at_call 140; (refine (HL.out _).mono ?_); rintro e w' ⟨rfl, rfl⟩) | (go_at_call 132; (with_reducible refine (HD.out _ hb1).mono ?_); rintro e w2 ⟨v2, rfl, ho2, hb2⟩))
        go_ret
        exact ⟨_, rfl, by rw [HZ.out]; exact ho2, hb2⟩
    · have e1 := decide_eq_false g
      have e2 : decide (0 < r.byMonth.length) = false := decide_eq_false (by omega)
      go_enter Tryz.func134, Tryz.ntmps134
      try dsimp only [List.append]
      go_wp2_with (first | (go_at_call 139; (refine HNN.out.mono ?_); rintro e w1 ⟨rfl, hb1⟩; have k4' := below_get hb1 k4) | (go_at_call 135; (with_reducible refine (HM.out _ hb1).mono ?_); rintro e w' ⟨rfl, rfl⟩) | (go_at_call 140; (refine (HL.out _).mono ?_); rintro e w' ⟨rfl, rfl⟩) | (go_at_call 132; (with_reducible refine (HD.out _ hb1).mono ?_); rintro e w2 ⟨v2, rfl, ho2, hb2⟩))
      go_ret
      exact ⟨_, rfl, by rw [HZ.out]; exact ho2, hb2⟩
  · have hv : dmay y m 1 = false := by
      cases h : dmay y m 1 with
      | false => rfl
      | true => have := (dmay_iff _ _ _).1 h; omega
    rw [hv] at HN
    have HE := Hid.mk (mdays_late (r := r) (s := s) hm1 hm2 hy)
    have HNN : Hid (Calls Tryz.prog 139 #[.agg #[.int .i64 y, .int .i64 m, .int .i64 1]] w fun e w' => e = .returned (.tuple #[.int .i64 0, .bool false]) ∧ Below w.heap.size w w') := Hid.mk HN
    have HO := Hid.mk hown
    clear HN hown hv
    go_enter Tryz.func134, Tryz.ntmps134
    try dsimp only [List.append]
    go_wp2_with (first | (go_at_call 139; (refine HNN.out.mono ?_); rintro e w1 ⟨rfl, hb1⟩; have k4' := below_get hb1 k4))
    go_ret
    exact ⟨_, rfl, by rw [HE.out, List.append_nil]; exact own_below HO.out hb1, bl_step hB hb1⟩
end Go.Proofs.YthcngkcfopaigaaGreat
