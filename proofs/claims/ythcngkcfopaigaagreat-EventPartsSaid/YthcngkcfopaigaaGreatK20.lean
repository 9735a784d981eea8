/- The walk of the program's function that tells of which minute a local time comes. -/
import Derived.Test.YthcngkcfopaigaaGreatK6
namespace Go.Proofs.YthcngkcfopaigaaGreat
open Go.RowKit
def UtcRet (base : Int) (ts : List (Int × Int)) (l : Int) (e : Ending) : Prop := ∃ kind : Int, e = .returned (.tuple #[.int .i64 (if utcOk base ts l then utcRaw base ts l else 0), .int .i64 kind, .bool (utcOk base ts l)])
theorem utcOk_no {base : Int} {ts : List (Int × Int)} {l : Int} (h : zmay base ts = false ∨ l < -900 ∨ 158311620 < l) : utcOk base ts l = false := by
  cases e : utcOk base ts l with
  | false => rfl
  | true => simp only [utcOk, Bool.and_eq_true, decide_eq_true_eq] at e; rcases h with h | h | h; (rw [h] at e; simp at e); omega; omega
theorem utcOk_yes {base : Int} {ts : List (Int × Int)} {l : Int} (h : zmay base ts = true) (h1 : -900 ≤ l) (h2 : l ≤ 158311620) : utcOk base ts l = (decide (0 ≤ utcRaw base ts l) && decide (utcRaw base ts l ≤ 158310720)) := by
  simp [utcOk, h, h1, h2]
theorem utc_no (base : Int) (a : Option Addr) (cap : Nat) (ts : List (Int × Int)) (l : Int) (w : World) (hr : Row 2 encT w a ts) (hbig : ts.length ≤ 9223372036854775807) (h : zmay base ts = false ∨ l < -900 ∨ 158311620 < l) :
    Calls Tryz.prog 57 #[.agg #[.int .i64 base, .slice a ts.length cap], .int .i64 l] w fun e w' => UtcRet base ts l e ∧ Below w.heap.size w w' := by
  have HU := Hid.mk (utcOk_no h)
  have HM := Hid.mk (zmay_c base a cap ts (w.alloc (.cells #[.int .i64 base, .slice a ts.length cap] 24)) (hr.below (bl_alloc (Below.refl _ _) _)) hbig)
  clear hr
  have hcase : zmay base ts = false ∨ (zmay base ts = true ∧ decide (l < -900) = true) ∨ (zmay base ts = true ∧ decide (l < -900) = false ∧ decide (158311620 < l) = true) := by
    cases hz : zmay base ts with
    | false => exact .inl rfl
    | true =>
      by_cases h1 : l < -900
      · exact .inr (.inl ⟨rfl, by simpa using h1⟩)
      · rcases h with h | h | h
        · rw [hz] at h; cases h
        · omega
        · exact .inr (.inr ⟨rfl, by simpa using h1, by simpa using h⟩)
  clear h
  rcases hcase with hz | ⟨hz, d1⟩ | ⟨hz, d1, d2⟩
  all_goals
    have HZ := Hid.mk hz
    clear hz
    go_enter Tryz.func57, Tryz.ntmps57
    go_wp2_with (go_at_call 29; refine HM.out.mono ?_; rw [HZ.out]; rintro e w1 ⟨rfl, hb1⟩)
    go_ret3
    exact ⟨⟨0, by rw [HU.out]; rfl⟩, bl_step (bl_alloc (Below.refl _ _) _) hb1⟩
set_option maxRecDepth 100000 in
set_option maxHeartbeats 4000000 in
theorem utc_yes (base : Int) (a : Option Addr) (cap : Nat) (ts : List (Int × Int)) (l : Int) (w : World) (hr : Row 2 encT w a ts) (hz : zmay base ts = true) (h1 : -900 ≤ l) (h2 : l ≤ 158311620) :
    Calls Tryz.prog 57 #[.agg #[.int .i64 base, .slice a ts.length cap], .int .i64 l] w fun e w' => UtcRet base ts l e ∧ Below w.heap.size w w' := by
  have HU := Hid.mk (utcOk_yes hz h1 h2)
  have hok := zmay_iff.1 hz
  have hlen := hok.len
  have HOK := Hid.mk hok
  have HM := Hid.mk (zmay_c base a cap ts (w.alloc (.cells #[.int .i64 base, .slice a ts.length cap] 24)) (hr.below (bl_alloc (Below.refl _ _) _)) (by omega))
  have HZ := Hid.mk hz
  have HB := Hid.mk (fun u w hr => behind_c base a cap ts u w hr HOK.out)
  have hlo := nb_le ts (l - 900 - 1)
  have hhi := nb_le ts (l + 900 + 1)
  have hlh := hok.nb_mono (u := l - 900 - 1) (v := l + 900 + 1) (by omega)
  have HGN : Hid (∀ i, i < ts.length → zgap base ts l i = true → nb ts (l - 900 - 1) ≤ i ∧ i < nb ts (l + 900 + 1)) := fun i hi hg => by
    have := HOK.out.gap_near hi hg
    rwa [show l - 901 = l - 900 - 1 by omega, show l + 901 = l + 900 + 1 by omega] at this
  have HNB : Hid (∀ n, n ≤ ts.length → zin base ts l n = true → nb ts (l - 900 - 1) ≤ n ∧ n ≤ nb ts (l + 900 + 1)) := fun n h1 h2 => by
    have := HOK.out.near h1 h2
    rwa [show l - 901 = l - 900 - 1 by omega, show l + 901 = l + 900 + 1 by omega] at this
  have d1 : decide (l < -900) = false := decide_eq_false (by omega)
  have d2 : decide (158311620 < l) = false := decide_eq_false (by omega)
  have hraw := HOK.out.raw_near l
  obtain ⟨hraw1, hraw2⟩ := hraw
  have HR := Hid.mk hr
  clear hz hok hr
  go_enter Tryz.func57, Tryz.ntmps57
  go_wp2_with (go_at_call 29; refine HM.out.mono ?_; rw [HZ.out]; rintro e w1 ⟨rfl, hb1⟩)
  have c0 := fun p : Wb w1 => box_get (bl_step hb1 p.2) 0 rfl
  have c1 := fun p : Wb w1 => box_get (bl_step hb1 p.2) 1 rfl
  have hb2 := bl_step (bl_alloc (Below.refl w.heap.size w) _) hb1
  refine wp_region_below (by kernel_rfl) (by kernel_rfl) ?_
  repeat (go_big_quiet_step ((go_at_call 80; exact wb_call _ (HB.out _ _ (HR.out.below (bl_step hb2 (Wb.b _)))))))
  refine wpQuiet_nil ?_
  intro _ hw'
  obtain ⟨⟨w2, hb3⟩, rfl⟩ := hw'
  have hb4 := bl_step hb1 hb3
  clear c0 c1
  go_wp2
  clear HB
  generalize hloe : nb ts (l - 900 - 1) = lo at *
  generalize hhie : nb ts (l + 900 + 1) = hi at *
  clear hloe hhie
  go_loopw [10, 11, 12] (fun tm ta_ tn wr => ∃ (n m : Nat) (at_ : Int), lo ≤ n ∧ n ≤ hi + 1 ∧ m ≤ n ∧ tm = .int .i64 m ∧ ta_ = .int .i64 at_ ∧ tn = .int .i64 n ∧ (m = 0 → ∀ j, j < n → zin base ts l j = false) ∧ (0 < m → at_ = utcRaw base ts l) ∧ Below (w.alloc (.cells #[.int .i64 base, .slice a ts.length cap] 24)).heap.size (w.alloc (.cells #[.int .i64 base, .slice a ts.length cap] 24)) wr) (fun _ _ tn _ => hi + 1 - (intOf tn).toNat)
  case atStart =>
    refine ⟨lo, 0, 0, Nat.le_refl _, by omega, Nat.zero_le _, rfl, rfl, rfl, fun _ j hj => ?_, fun h => absurd h (Nat.lt_irrefl _), hb4⟩
    cases e : zin base ts l j with
    | false => rfl
    | true => have := (HNB.out j (by omega) e).1; omega
  case round =>
    obtain ⟨n, m, at_, n1, n2, n3, rfl, rfl, rfl, hz0, hz1, hB⟩ := hrel
    have hB2 : Below w.heap.size w wr := bl_step (bl_alloc (Below.refl _ _) _) hB
    have b0 := box_get hB 0 rfl
    have b1 := box_get hB 1 rfl
    have HZ0 := Hid.mk hz0
    have HZ1 := Hid.mk hz1
    clear hz0 hz1
    by_cases hlt : n ≤ hi
    · have dl : decide (n ≤ hi) = true := decide_eq_true hlt
      have HF := Hid.mk (from_c base a cap ts l n wr (HR.out.below hB2) HOK.out (by omega) (by omega) (by omega))
      have HRI := Hid.mk (fun h1 h2 => raw_in (base := base) (ts := ts) (l := l) (n := n) (by omega) h1 h2)
      obtain ⟨a1, a2⟩ := HOK.out.added (n := n) (by omega)
      generalize added base ts n = A at *
      cases hzn : zin base ts l n with
      | false =>
        have HZN := Hid.mk hzn
        clear hzn
        go_wp2_with (go_at_call 81; refine HF.out.mono ?_; rw [HZN.out]; rintro e w3 ⟨rfl, hb5⟩)
        go_roundw
        case rel => exact ⟨n + 1, m, at_, by omega, by omega, by omega, rfl, rfl, by go_num, fun h j hj => by (by_cases e : j = n; subst e; exact HZN.out; exact HZ0.out h j (by omega)), HZ1.out, bl_step hB hb5⟩
        case measure => simp [intOf]; omega
      | true =>
        have HZN := Hid.mk hzn
        clear hzn
        by_cases hm : m = 0
        · subst hm
          go_wp2_with (go_at_call 81; refine HF.out.mono ?_; rw [HZN.out]; rintro e w3 ⟨rfl, hb5⟩)
          go_roundw
          case rel => exact ⟨n + 1, 1, l - A, by omega, by omega, by omega, by go_num, rfl, by go_num, fun h => absurd h (by omega), fun _ => (HRI.out HZN.out (HZ0.out (by trivial))).symm, bl_step hB hb5⟩
          case measure => simp [intOf]; omega
        · have hm0 : (((m : Nat) : Int) == 0) = false := by simp; omega
          go_wp2_with (go_at_call 81; refine HF.out.mono ?_; rw [HZN.out]; rintro e w3 ⟨rfl, hb5⟩)
          go_roundw
          case rel => exact ⟨n + 1, m + 1, at_, by omega, by omega, by omega, by go_num, rfl, by go_num, fun h => absurd h (by omega), fun _ => HZ1.out (by omega), bl_step hB hb5⟩
          case measure => simp [intOf]; omega
    · have dl : decide (n ≤ hi) = false := decide_eq_false hlt
      have hn : n = hi + 1 := by omega
      have HIN := Hid.mk (fun w => in_c (utcRaw base ts l) w)
      by_cases hm : m = 0
      · subst hm
        have hno : ∀ j, j ≤ ts.length → zin base ts l j = false := fun j hj => by
          cases e : zin base ts l j with
          | false => rfl
          | true =>
            have := (HNB.out j hj e).2
            rw [HZ0.out (by trivial) j (by omega)] at e; cases e
        obtain ⟨i, hi_, hg⟩ := HOK.out.gap_some hno
        have hgn := HGN.out i hi_ hg
        have HRG := Hid.mk (HOK.out.raw_gap hno hi_ hg)
        have HG := Hid.mk (gap_c base a cap ts l (lo) (hi) i wr (HR.out.below hB2) HOK.out (by omega) (by omega) hhi hgn.1 hgn.2 hg (fun j hj hgj => HOK.out.gap_one hj hi_ hgj hg))
        clear hno hg hgn hn
        rw [← HRG.out] at HG
        generalize hUe : utcRaw base ts l = U at *
        have HUE := Hid.mk hUe
        clear hUe
        by_cases hin : 0 ≤ U ∧ U ≤ 158310720
        · have HI : Hid ((decide (0 ≤ U) && decide (U ≤ 158310720)) = true) := by unfold Hid; simp; omega
          go_wp2_with (first | (go_at_call 82; refine HG.out.mono ?_; rintro e w3 ⟨rfl, hb5⟩) | (go_at_call 83; refine (HIN.out _).mono ?_; rw [HI.out]; rintro e w4 ⟨rfl, rfl⟩))
          go_ret3
          exact ⟨⟨1, by rw [HU.out, HUE.out, HI.out]; rfl⟩, bl_step hB2 hb5⟩
        · have HI : Hid ((decide (0 ≤ U) && decide (U ≤ 158310720)) = false) := by unfold Hid; simp; omega
          go_wp2_with (first | (go_at_call 82; refine HG.out.mono ?_; rintro e w3 ⟨rfl, hb5⟩) | (go_at_call 83; refine (HIN.out _).mono ?_; rw [HI.out]; rintro e w4 ⟨rfl, rfl⟩))
          go_ret3
          exact ⟨⟨0, by rw [HU.out, HUE.out, HI.out]; rfl⟩, bl_step hB2 hb5⟩
      · have hm0 : (((m : Nat) : Int) == 0) = false := by simp; omega
        obtain rfl := HZ1.out (by omega)
        clear hn
        generalize hUe : utcRaw base ts l = U at *
        have HUE := Hid.mk hUe
        clear hUe
        by_cases h2 : m = 2
        · subst h2
          by_cases hin : 0 ≤ U ∧ U ≤ 158310720
          · have HI : Hid ((decide (0 ≤ U) && decide (U ≤ 158310720)) = true) := by unfold Hid; simp; omega
            go_wp2_with (go_at_call 83; refine (HIN.out _).mono ?_; rw [HI.out]; rintro e w4 ⟨rfl, rfl⟩)
            go_ret3
            exact ⟨⟨2, by rw [HU.out, HUE.out, HI.out]; rfl⟩, hB2⟩
          · have HI : Hid ((decide (0 ≤ U) && decide (U ≤ 158310720)) = false) := by unfold Hid; simp; omega
            go_wp2_with (go_at_call 83; refine (HIN.out _).mono ?_; rw [HI.out]; rintro e w4 ⟨rfl, rfl⟩)
            go_ret3
            exact ⟨⟨0, by rw [HU.out, HUE.out, HI.out]; rfl⟩, hB2⟩
        · have hm2 : (((m : Nat) : Int) == 2) = false := by simp; omega
          by_cases hin : 0 ≤ U ∧ U ≤ 158310720
          · have HI : Hid ((decide (0 ≤ U) && decide (U ≤ 158310720)) = true) := by unfold Hid; simp; omega
            go_wp2_with (go_at_call 83; refine (HIN.out _).mono ?_; rw [HI.out]; rintro e w4 ⟨rfl, rfl⟩)
            go_ret3
            exact ⟨⟨0, by rw [HU.out, HUE.out, HI.out]; rfl⟩, hB2⟩
          · have HI : Hid ((decide (0 ≤ U) && decide (U ≤ 158310720)) = false) := by unfold Hid; simp; omega
            go_wp2_with (go_at_call 83; refine (HIN.out _).mono ?_; rw [HI.out]; rintro e w4 ⟨rfl, rfl⟩)
            go_ret3
            exact ⟨⟨0, by rw [HU.out, HUE.out, HI.out]; rfl⟩, hB2⟩
theorem utc_c (base : Int) (a : Option Addr) (cap : Nat) (ts : List (Int × Int)) (l : Int) (w : World) (hr : Row 2 encT w a ts) (hbig : ts.length ≤ 9223372036854775807) :
    Calls Tryz.prog 57 #[.agg #[.int .i64 base, .slice a ts.length cap], .int .i64 l] w fun e w' => UtcRet base ts l e ∧ Below w.heap.size w w' := by
  by_cases h : zmay base ts = true ∧ -900 ≤ l ∧ l ≤ 158311620
  · exact utc_yes base a cap ts l w hr h.1 h.2.1 h.2.2
  · refine utc_no base a cap ts l w hr hbig ?_
    cases hz : zmay base ts with
    | false => exact .inl rfl
    | true => rw [hz] at h; simp at h; right; omega
end Go.Proofs.YthcngkcfopaigaaGreat
