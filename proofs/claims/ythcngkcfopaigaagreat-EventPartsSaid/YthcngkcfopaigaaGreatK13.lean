/- The walk of the iterator over a rule's times. -/
import Derived.Test.YthcngkcfopaigaaGreatK10
import Derived.Test.YthcngkcfopaigaaGreatK11
import Derived.Test.YthcngkcfopaigaaGreatK12
import Derived.Shelf.Abstract
import Derived.Shelf.RegionOpen
import Derived.OwnWalkIn
import Derived.TacticsInMore
import Derived.LoopNIn
import Derived.LoopIn
namespace Go.Proofs.YthcngkcfopaigaaGreat
open Go.RowKit Go.Shelf
attribute [local go_sem] Oper.semAt_some
/-- what lies while the iterator is under way -/
structure ItInv (wb : World) (B : Nat) (t : TypeId) (p : Nat) (cs : Array Value) (T : TypeId) (wr : World) : Prop where
  below : Below wb.heap.size wb wr
  box : BoxWf B t wr
  blk : wr.heap[p]? = some (.cells cs T (0, 0))
  np : ¬ Mine B t wr p
theorem ItInv.step {wb : World} {B : Nat} {t : TypeId} {p : Nat} {cs : Array Value} {T : TypeId} {wr w' : World} (h : ItInv wb B t p cs T wr) (hb : Below wr.heap.size wr w') : ItInv wb B t p cs T w' :=
  ⟨bl_step h.below hb, boxWf_below hb h.box, blk_below h.blk hb, fun hm => h.np (mine_below hb h.box hm)⟩
theorem ItInv.round {wb : World} {B : Nat} {t : TypeId} {p : Nat} {cs : Array Value} {T : TypeId} {wr w' : World} (h : ItInv wb B t p cs T wr) (hk : KpB wb.heap.size B t wr w') : ItInv wb B t p cs T w' :=
  ⟨h.below.trans hk.1, (hk.2 h.box).1, ((hk.2 h.box).2 _ _ _ _ h.blk h.np).1, ((hk.2 h.box).2 _ _ _ _ h.blk h.np).2⟩
theorem ItInv.wk {wb : World} {B : Nat} {t : TypeId} {p : Nat} {T : TypeId} {wr : World} {r : RuleV} {a1 : Option Addr} {c1 : Nat} {a2 : Option Addr} {c2 : Nat} {a3 : Option Addr} {c3 : Nat} {a4 : Option Addr} {c4 : Nat} {s mi : Int}
    (h : ItInv wb B t p (walkC r a1 c1 a2 c2 a3 c3 a4 c4 s mi) T wr) (hr : RuleAt wb r a1 a2 a3 a4) : WkAt wr p r a1 c1 a2 c2 a3 c3 a4 c4 s mi :=
  ⟨fun i _ hv => blk_cell h.blk i hv, hr.below h.below⟩
/-- a slice of the iterator's own -/
def OwnN (B : Nat) (t : TypeId) (w : World) (b : Nat) (e : TypeId) (v : Value) (xs : List Int) : Prop := Own w b e v xs ∧ ∀ g, v.ownBlock = some g → ¬ Mine B t w g
theorem OwnN.round {n₀ B : Nat} {t : TypeId} {w w' : World} {b : Nat} {e : TypeId} {v : Value} {xs : List Int} (h : OwnN B t w b e v xs) (hb : BoxWf B t w) (hk : KpB n₀ B t w w') : OwnN B t w' b e v xs := by
  obtain ⟨⟨h1, h2⟩, h3⟩ := h
  rcases h2 with ⟨rfl, h0⟩ | ⟨g, cap, cur, rfl, hg, hh, h4⟩
  · exact ⟨⟨h1, .inl ⟨rfl, h0⟩⟩, fun g e => by simp [Value.ownBlock] at e⟩
  · have := (hk.2 hb).2 _ _ _ _ hh (h3 g rfl)
    exact ⟨⟨h1, .inr ⟨g, cap, cur, rfl, hg, this.1, h4⟩⟩, fun g' e => by simp [Value.ownBlock] at e; subst e; exact this.2⟩
theorem ownN_new {B : Nat} {t : TypeId} {w w' : World} {e : TypeId} {v : Value} {xs : List Int} (h : Own w' w.heap.size e v xs) (hb : BoxWf B t w) (hbl : Below w.heap.size w w') : OwnN B t w' w.heap.size e v xs := by
  refine ⟨h, fun g e hm => ?_⟩
  have h1 := mine_lt hb (mine_below hbl hb hm)
  rcases h.2 with ⟨rfl, h0⟩ | ⟨g', cap, cur, rfl, hg, _⟩
  · simp [Value.ownBlock] at e
  · simp [Value.ownBlock] at e; subst e; omega
theorem own_ints2 {w : World} {b n cap : Nat} {a : Option Addr} {e : TypeId} {xs : List Int} (h : Own w b e (.slice a n cap) xs) : Ints w a xs := by
  obtain ⟨a', cap', he, hi⟩ := own_ints h
  cases he; exact hi
set_option maxRecDepth 100000 in
set_option maxHeartbeats 8000000 in
theorem times_in (wb : World) (B : Nat) (t : TypeId) (n p l : Nat) (r : RuleV) (a1 : Option Addr) (c1 : Nat) (a2 : Option Addr) (c2 : Nat) (a3 : Option Addr) (c3 : Nat) (a4 : Option Addr) (c4 : Nat) (s mi k0 : Int)
    (hr : RuleAt wb r a1 a2 a3 a4) (hs0 : 0 ≤ s) (hs1 : s < 109938) (hm0 : 0 ≤ mi) (hm1 : mi < 1440) (hi1 : 1 ≤ r.interval) (hi2 : r.interval ≤ 999) (hf1 : 1 ≤ r.freq) (hf4 : r.freq ≤ 4) (hst0 : 0 ≤ r.start) (hst1 : r.start ≤ 6)
    (hct : 0 < r.count → ¬ 0 ≤ r.till) (hk0 : 0 ≤ k0) (hk1 : k0 * r.interval ≤ 120000) (J Jx : List Int → World → Prop)
    (hY : ∀ m pre x W1, J pre W1 → pre.length < (hand r s mi k0).length → YieldAt Fence.wide m Tryz.prog l #[.int .i64 x] W1 fun e W' =>
      (e = .returned (.bool true) ∧ J (pre ++ [x]) W' ∧ KpB wb.heap.size B t W1 W') ∨ (e = .returned (.bool false) ∧ Jx (pre ++ [x]) W'))
    (W : World) (hJ : ∀ pre w1 w2, J pre w1 → Below w1.heap.size w1 w2 → J pre w2) (hI : ItInv wb B t p (walkC r a1 c1 a2 c2 a3 c3 a4 c4 s mi) 135 W) (h0 : J [] W) :
    CallsIn Fence.wide n Tryz.prog 103 #[.pointer (some ⟨p, 0, none⟩), .int .i64 k0, .func (.yield l) #[] #[]] W fun e W' => (∃ v, e = .returned v) ∧
      ((∃ ys, ys = hand r s mi k0 ∧ J ys W') ∨ (∃ pre, pre <+: hand r s mi k0 ∧ Jx pre W')) := by
  refine callsIn_of_wp Tryz.func103 rfl trivial ?_ rfl
  simp only [Tryz.ntmps103, List.size_toArray, List.length_cons, List.length_nil, Nat.reduceAdd, Nat.reduceSub, Array.replicate_succ, Array.replicate_zero, List.push_toArray, List.append_toArray, List.nil_append, List.cons_append]
  have hdd : ∀ k : Nat, (Fence.wide.depth.isSome = true → 1 ≤ k) := fun k h => by simp [Fence.wide] at h
  have HCT := Hid.mk hct
  have HJ := Hid.mk hJ
  have HY := Hid.mk hY
  have HR := Hid.mk hr
  clear hct hJ hY hr
  gi_wp2
  gi_loopw [1, 6] (fun tk tg wr => ∃ (k : Int) (pre : List Int), k0 ≤ k ∧ k * r.interval ≤ 121000 ∧ tk = .int .i64 k ∧ tg = .int .i64 (pre.length : Int) ∧ pre = tms mi (seen r s k0 k) ∧ alive r pre ∧ J pre wr ∧ ItInv wb B t p (walkC r a1 c1 a2 c2 a3 c3 a4 c4 s mi) 135 wr) (fun tk _ _ => (200000 - intOf tk).toNat)
  case atStart =>
    exact ⟨k0, [], Int.le_refl _, by omega, rfl, rfl, by rw [seen_nil]; rfl, alive_nil _, h0, hI⟩
  case round =>
    obtain ⟨k, pre, hk, hkb, rfl, rfl, hpre, hal, hj, hin⟩ := hrel
    have hq0 : 0 ≤ k * r.interval := Int.mul_nonneg (by omega) (by omega)
    have hkk : k ≤ k * r.interval := by
      have := Int.mul_le_mul_of_nonneg_left hi1 (show 0 ≤ k by omega)
      omega
    have hw := hin.wk HR.out
    have HP := Hid.mk (period_c wr wr p r a1 c1 a2 c2 a3 c3 a4 c4 s mi k hw hs0 hs1 (Below.refl _ _) hq0 (by omega) hf1 hf4 hst0 hst1)
    unfold PerPost at HP
    have hlo := come_zero r s mi k0 k
    have hcp := fun i => come_prefix (r := r) (s := s) (mi := mi) (k0 := k0) (k := k) hs0 hs1 hi1 hk i
    have hwl := whole_length r s mi k0
    have hpl : pre.length ≤ 109938 := by
      have := (hcp 0).length_le
      rw [hlo, ← hpre] at this; omega
    cases hmo : pmore r s (k * r.interval) with
    | false =>
      rw [hmo] at HP
      have HD : Hid (hand r s mi k0 = pre) := by
        unfold Hid; rw [hpre]; refine hand_done (hpre ▸ hal) ?_
        unfold pmore at hmo; simp at hmo; omega
      have HAL := Hid.mk hal
      clear hmo hpre hlo hcp hw hal
      gi_wp2_with (refine ⟨trivial, hdd _, ?_⟩; gi_at_call 126; refine (callsIn_wide.2 HP.out).mono ?_; rintro e w1 ⟨v, rfl, ho, hb⟩)
      refine bodyPost_ret (results_none rfl _ _ _) rfl ?_
      exact ⟨⟨_, rfl⟩, .inl ⟨pre, HD.out.symm, HJ.out _ _ _ hj hb⟩⟩
    | true =>
      rw [hmo] at HP
      have hpf : pfirst r s (k * r.interval) < 109938 := by unfold pmore at hmo; simpa using hmo
      have hk12 := pfirst_far2 r hs0 hs1 hq0 hpf
      have hlen := plist_length r s (k * r.interval)
      have hkl := kept_length r (plist r s (k * r.interval))
      have HPL := Hid.mk (fun v w1 (hb : Below wr.heap.size wr w1) (ho : Own w1 wr.heap.size 3 v (plist r s (k * r.interval))) => places_c wr w1 p r a1 c1 a2 c2 a3 c3 a4 c4 s mi v (plist r s (k * r.interval)) hw hb ho (by omega))
      have hkm := fun i (h : i < (kept r (plist r s (k * r.interval))).length) => kept_mem (r := r) (p := k * r.interval) hs0 hs1 h
      have hsk := fun i (h : i < (kept r (plist r s (k * r.interval))).length) => come_skip (mi := mi) (k0 := k0) h
      have hnx := fun i (h : i < (kept r (plist r s (k * r.interval))).length) => come_next (mi := mi) (k0 := k0) h
      have HSK := Hid.mk hsk
      have HNX := Hid.mk hnx
      have HKM := Hid.mk hkm
      have HCP := Hid.mk hcp
      have HCA := Hid.mk (come_all (mi := mi) hs0 hs1 hi1 hk)
      have HPRE := Hid.mk (hpre.trans hlo.symm)
      have HAL := Hid.mk hal
      clear hmo hpf hw hkm hsk hnx hpre hlo hcp hal
      gi_wp2_with (first | (refine ⟨trivial, hdd _, ?_⟩; gi_at_call 126; refine (callsIn_wide.2 HP.out).mono ?_; rintro e w1 ⟨v, rfl, ho, hb⟩) | (refine ⟨trivial, hdd _, ?_⟩; gi_at_call 127; refine (callsIn_wide.2 (HPL.out _ _ hb ho)).mono ?_; rintro e w2 ⟨v2, rfl, ho2, hb2⟩; have hN := ownN_new ho2 hin.box hb2; obtain ⟨a, cap, rfl, hii⟩ := own_ints ho2))
      generalize kept r (plist r s (k * r.interval)) = q at *
      clear ho hii
      obtain ⟨wo, rfl⟩ : ∃ wo : World, wo = wr := ⟨_, rfl⟩
      have hj2 := HJ.out _ _ _ hj hb2
      have hin2 := hin.step hb2
      clear hj hin
      gi_loopw [6, 26] (fun tg ti wr => ∃ (i : Nat) (pr : List Int), i ≤ q.length ∧ ti = .int .i64 i ∧ tg = .int .i64 (pr.length : Int) ∧ pr = come r s mi k0 k i ∧ alive r pr ∧ J pr wr ∧ ItInv wb B t p (walkC r a1 c1 a2 c2 a3 c3 a4 c4 s mi) 135 wr ∧ OwnN B t wr wo.heap.size 3 (.slice a q.length cap) q) (fun _ ti _ => q.length - (intOf ti).toNat)
      case atStart => exact ⟨0, pre, by omega, rfl, rfl, HPRE.out, HAL.out, hj2, hin2, hN⟩
      case round =>
        obtain ⟨i, pr, hi, rfl, rfl, hpr, hal, hj, hin, hown⟩ := hrel
        by_cases hlt : i < q.length
        · obtain ⟨bb, off, rfl, hcells⟩ := (own_ints2 hown.1).ig hlt
          have c0 := hcells i hlt
          have hbz := block_lt c0
          have hwk := hin.wk HR.out
          have k2 : wr.cell? ⟨p, 2, none⟩ = some (.int .i64 r.count) := hwk.cell 2 _ rfl
          have k3 : wr.cell? ⟨p, 3, none⟩ = some (.int .i64 r.till) := hwk.cell 3 _ rfl
          have k9 : wr.cell? ⟨p, 9, none⟩ = some (.int .i64 s) := hwk.cell 9 _ rfl
          have k13 : wr.cell? ⟨p, 13, none⟩ = some (.int .i64 mi) := hwk.cell 13 _ rfl
          have hp := block_lt k2
          have d1 : decide (i < q.length) = true := decide_eq_true hlt
          obtain ⟨n0, n1⟩ := HKM.out i hlt
          have HS1 := Hid.mk (HSK.out i hlt)
          have HN1 := Hid.mk (HNX.out i hlt)
          have hcp1 := HCP.out (i + 1)
          have hpl2 : pr.length ≤ 109938 := by
            have := (HCP.out i).length_le
            rw [← hpr] at this; omega
          clear hcells hwk
          generalize ig q i = N at *
          by_cases hA : N < s
          · have dA := decide_eq_true hA
            have HPR := Hid.mk (hpr.trans (HS1.out hA).symm)
            have HAL2 := Hid.mk hal
            clear hcp1 hpr hal
            gi_wp2
            go_roundw
            case rel => exact ⟨i + 1, pr, by omega, by go_num, rfl, HPR.out, HAL2.out, hj, hin, hown⟩
            case measure => simp [intOf]; omega
          · have dA := decide_eq_false hA
            have hnx := HN1.out (by omega)
            rw [hnx, ← hpr] at hcp1
            have HPR := Hid.mk (show pr ++ [N * 1440 + mi] = come r s mi k0 k (i + 1) by rw [hnx, ← hpr])
            have HCP1 := Hid.mk hcp1
            have HAL2 := Hid.mk hal
            clear hcp1 hpr hal hnx
            by_cases hB : 0 ≤ r.till ∧ r.till < N * 1440 + mi
            · obtain ⟨hB1, hB2⟩ := hB
              have dB1 := decide_eq_true hB1
              have dB2 := decide_eq_true hB2
              have HD := Hid.mk (hand_till HCP1.out HAL2.out hB1 hB2)
              gi_wp2
              refine bodyPost_ret (results_none rfl _ _ _) rfl ?_
              first | exact ⟨⟨_, rfl⟩, .inl ⟨pr, HD.out.symm, hj⟩⟩ | exact ⟨⟨_, rfl⟩, .inl (by rw [HD.out]; exact hj)⟩
            · have hcB : decide (0 ≤ r.till) = false ∨ (decide (0 ≤ r.till) = true ∧ decide (r.till < N * 1440 + mi) = false) := by
                by_cases h : 0 ≤ r.till
                · exact .inr ⟨decide_eq_true h, decide_eq_false (fun h2 => hB ⟨h, h2⟩)⟩
                · exact .inl (decide_eq_false h)
              have HB := Hid.mk hB
              clear hB
              by_cases hC : 0 < r.count ∧ (pr.length : Int) = r.count
              · obtain ⟨hC1, hC2⟩ := hC
                have dC1 := decide_eq_true hC1
                have dC2 : ((pr.length : Int) == r.count) = true := by simpa using hC2
                have HD := Hid.mk (hand_count HCP1.out (by have := HCT.out hC1; omega) hC1 hC2)
                clear hC2
                rcases hcB with dB | ⟨dB, dB'⟩
                all_goals
                  gi_wp2
                  refine bodyPost_ret (results_none rfl _ _ _) rfl ?_
                  first | exact ⟨⟨_, rfl⟩, .inl ⟨pr, HD.out.symm, hj⟩⟩ | exact ⟨⟨_, rfl⟩, .inl (by rw [HD.out]; exact hj)⟩
              · have hcC : decide (0 < r.count) = false ∨ (decide (0 < r.count) = true ∧ ((pr.length : Int) == r.count) = false) := by
                  by_cases h : 0 < r.count
                  · exact .inr ⟨decide_eq_true h, by simp; exact fun h2 => hC ⟨h, h2⟩⟩
                  · exact .inl (decide_eq_false h)
                have HAL3 := Hid.mk (alive_snoc HAL2.out HB.out hC)
                have HNT := Hid.mk (hand_next HCP1.out HAL3.out)
                clear hC
                obtain ⟨fn, tmps, assign, body, hy, hRd⟩ := HY.out (n - 1) pr (N * 1440 + mi) wr hj (prefix_lt HNT.out)
                rcases hcB with dB | ⟨dB, dB'⟩ <;> rcases hcC with dC | ⟨dC, dC'⟩
                all_goals
                  gi_wp2
                  refine ⟨hdd _, ?_⟩
                  refine hRd.mono ?_
                  rintro e W3 (⟨rfl, hJ3, hk3⟩ | ⟨rfl, hJx3⟩)
                  · gi_wp2
                    go_roundw
                    case rel => exact ⟨i + 1, pr ++ [N * 1440 + mi], by omega, by go_num, by rw [List.length_append]; rfl, HPR.out, HAL3.out, hJ3, hin.round hk3, hown.round hin.box hk3⟩
                    case measure => simp [intOf]; omega
                  · gi_wp2
                    refine bodyPost_ret (results_none rfl _ _ _) rfl ?_
                    exact ⟨⟨_, rfl⟩, .inr ⟨_, HNT.out, hJx3⟩⟩
        · obtain rfl : i = q.length := by omega
          have d1 : decide (q.length < q.length) = false := decide_eq_false (by omega)
          have HPR := Hid.mk (hpr.trans HCA.out)
          have HAL2 := Hid.mk hal
          have hmul : (k + 1) * r.interval = k * r.interval + r.interval := by rw [Int.add_mul, Int.one_mul]
          clear hpr hal
          have HMU := Hid.mk hmul
          clear hmul
          gi_wp2
          go_roundw
          case rel => exact ⟨k + 1, pr, by omega, by rw [HMU.out]; omega, rfl, rfl, HPR.out, HAL2.out, hj, hin⟩
          case measure => simp [intOf]; omega
end Go.Proofs.YthcngkcfopaigaaGreat
