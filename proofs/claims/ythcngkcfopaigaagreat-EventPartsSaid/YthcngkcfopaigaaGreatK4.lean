/- The walks of the small functions on rules: the program's.
The walks of the calendar's functions: the program's and the document's.
The walks of the document's calendar: lengths of months, whether a date may be.
The walks of the small functions of recurrence: places in rows; the n-th weekday.
The walks: the n-th weekday.
The walks: the n-th weekday among a rule's days.
The walks of the program's functions that tell whether a rule may be. -/
import Derived.Test.YthcngkcfopaigaaGreatProg
import Derived.Test.YthcngkcfopaigaaGreatK3
import Derived.Test.YthcngkcfopaigaaGreatK1
import Derived.Test.YthcngkcfopaigaaGreatK2
namespace Go.Proofs.YthcngkcfopaigaaGreat
open Go.RowKit
def encD (t : Int × Int) : List Value := [.int .i64 t.1, .int .i64 t.2]
theorem row_d {w : World} {b off : Nat} {ts : List (Int × Int)} (h : ∀ (j : Nat) x, ts[j]? = some x → ∀ (i : Nat) v, (encD x)[i]? = some v → w.cell? ⟨b, off + j * 2 + i, none⟩ = some v) {k : Nat} (hk : k < ts.length) :
    w.cell? ⟨b, off + k * 2, none⟩ = some (.int .i64 (dn ts k)) ∧ w.cell? ⟨b, off + k * 2 + 1, none⟩ = some (.int .i64 (dd ts k)) := by
  have e : ts[k]? = some ts[k] := List.getElem?_eq_getElem hk
  have h0 := h k _ e 0 _ rfl
  have h1 := h k _ e 1 _ rfl
  simp only [dn, dd, e, Option.getD_some]
  exact ⟨h0, h1⟩
theorem Ints.ig {w : World} {a : Option Addr} {xs : List Int} (h : Ints w a xs) {j : Nat} (hj : j < xs.length) : ∃ b off, a = some ⟨b, off, none⟩ ∧ ∀ j, j < xs.length → w.cell? ⟨b, off + j, none⟩ = some (.int .i64 (Proofs.YthcngkcfopaigaaGreat.ig xs j)) := h.get hj
theorem rowless_c (a b : Int) (w : World) : Calls Tryz.prog 70 #[.int .i64 a, .int .i64 b] w fun e w' => e = .returned (.bool (decide (a < b))) ∧ w = w' := by
  go_enter Tryz.func70, Tryz.ntmps70
  go_wp2
  go_ret
  exact ⟨rfl, rfl⟩
set_option maxHeartbeats 1000000 in
theorem rises_c (a : Option Addr) (cap : Nat) (l : List Int) (w : World) (hr : Ints w a l) (hbig : l.length ≤ 1000000000000000000) :
    Calls Tryz.prog 69 #[.slice a l.length cap, .func (.func 70) #[] #[]] w fun e w' => e = .returned (.bool (upto (rup l) l.length)) ∧ Below w.heap.size w w' := by
  go_enter Tryz.func69, Tryz.ntmps69
  go_wp2
  go_loopw [5] (fun i wr => ∃ k : Nat, 1 ≤ k ∧ (k ≤ l.length ∨ k = 1) ∧ i = .int .i64 k ∧ (∀ j, j < k → j < l.length → rup l j = true) ∧ Below w.heap.size w wr) (fun i _ => l.length - (intOf i).toNat)
  case atStart => exact ⟨1, Nat.le_refl _, .inr rfl, rfl, fun j h _ => by (obtain rfl : j = 0 := by omega); rfl, Below.refl _ _⟩
  case round =>
    obtain ⟨k, k1, k2, rfl, hok, hB⟩ := hrel
    by_cases hlt : k < l.length
    · obtain ⟨b, off, rfl, hcells⟩ := (hr.below hB).ig hlt
      have c0 := hcells k hlt
      have c1 := hcells (k - 1) (by omega)
      have hbz := block_lt c0
      have HOK := Hid.mk hok
      have HR := Hid.mk hr
      have HU : Hid (rup l k = decide (ig l (k - 1) < ig l k)) := by unfold Hid rup; simp; omega
      clear hok hr hcells
      generalize ig l (k - 1) = X at *
      generalize ig l k = Y at *
      by_cases hxy : X < Y
      · have d1 := decide_eq_true hxy
        go_wp2
        go_quiet ((go_at_call 70; exact Calls.quiet_of_same ((rowless_c _ _ _).mono fun _ _ h => ⟨d1 ▸ h.1, h.2.symm⟩)))
        go_wp2
        go_roundw
        case rel => exact ⟨k + 1, by omega, .inl (by omega), by go_num, fun j h1 h2 => by (by_cases e : j = k; subst e; rw [HU.out]; exact d1; exact HOK.out j (by omega) h2), bl_drewN hB _⟩
        case measure => simp [intOf]; omega
      · have d1 := decide_eq_false hxy
        go_wp2
        go_quiet ((go_at_call 70; exact Calls.quiet_of_same ((rowless_c _ _ _).mono fun _ _ h => ⟨d1 ▸ h.1, h.2.symm⟩)))
        go_wp2
        go_ret
        exact ⟨ret_bool (upto_false hlt (by rw [HU.out]; exact d1)).symm, bl_drewN hB _⟩
    · go_wp2
      go_ret
      exact ⟨ret_bool (upto_true fun j hj => hok j (by omega) hj).symm, hB⟩
set_option maxHeartbeats 2000000 in
theorem rrow_c (a : Option Addr) (cap : Nat) (l : List Int) (most : Int) (below : Bool) (w : World) (hr : Ints w a l) (hbig : l.length ≤ 1000000000000000000) (hm1 : 0 ≤ most) (hm2 : most ≤ 1000000) :
    Calls Tryz.prog 45 #[.slice a l.length cap, .int .i64 most, .bool below] w fun e w' => e = .returned (.bool (rrow l most below)) ∧ Below w.heap.size w w' := by
  rw [rrow_split]
  have HR := Hid.mk (fun w hr => rises_c a cap l w hr hbig)
  go_enter Tryz.func45, Tryz.ntmps45
  go_wp2
  go_loop [11] (fun i => ∃ k : Nat, k ≤ l.length ∧ i = .int .i64 k ∧ (∀ j, j < k → rin l most below j = true)) (fun i => l.length - (intOf i).toNat)
  case atStart => exact ⟨0, Nat.zero_le _, rfl, fun j h => absurd h (Nat.not_lt_zero _)⟩
  case round =>
    obtain ⟨k, hk, rfl, hok⟩ := hrel
    by_cases hlt : k < l.length
    · obtain ⟨b, off, rfl, hcells⟩ := hr.ig hlt
      have c0 := hcells k hlt
      have HOK := Hid.mk hok
      have HRR := Hid.mk hr
      have HU : Hid (rin l most below k = (decide (ig l k ≠ 0) && decide (ig l k ≤ most) && decide (-most ≤ ig l k) && (below || decide (0 ≤ ig l k)))) := rfl
      clear hok hr hcells
      generalize ig l k = X at *
      by_cases g1 : X = 0
      · have d1 : (X == 0) = true := by simpa using g1
        have HF : Hid (rin l most below k = false) := by unfold Hid; rw [HU.out]; simp [g1]
        clear g1
        go_wp2
        go_ret
        exact ⟨ret_bool (by rw [upto_false hlt HF.out]; rfl), blw⟩
      have d1 : (X == 0) = false := by simpa using g1
      by_cases g2 : most < X
      · have d2 := decide_eq_true g2
        have HF : Hid (rin l most below k = false) := by unfold Hid; rw [HU.out, decide_eq_false (show ¬ X ≤ most by omega)]; simp
        go_wp2
        go_ret
        exact ⟨ret_bool (by rw [upto_false hlt HF.out]; rfl), blw⟩
      have d2 := decide_eq_false g2
      by_cases g3 : X < -most
      · have d3 := decide_eq_true g3
        have HF : Hid (rin l most below k = false) := by unfold Hid; rw [HU.out, decide_eq_false (show ¬ -most ≤ X by omega)]; simp
        go_wp2
        go_ret
        exact ⟨ret_bool (by rw [upto_false hlt HF.out]; rfl), blw⟩
      have d3 := decide_eq_false g3
      by_cases g4 : X < 0
      · have d4 := decide_eq_true g4
        cases below with
        | false =>
          have HF : Hid (rin l most false k = false) := by unfold Hid; rw [HU.out, decide_eq_false (show ¬ 0 ≤ X by omega)]; simp
          go_wp2
          go_ret
          exact ⟨ret_bool (by rw [upto_false hlt HF.out]; rfl), blw⟩
        | true =>
          have HT : Hid (rin l most true k = true) := by unfold Hid; rw [HU.out]; simp; omega
          go_wp2
          go_round
          case rel => exact ⟨k + 1, by omega, by go_num, fun j h1 => by (by_cases e : j = k; subst e; exact HT.out; exact HOK.out j (by omega))⟩
          case measure => simp [intOf]; omega
      have d4 := decide_eq_false g4
      have HT : Hid (rin l most below k = true) := by unfold Hid; rw [HU.out]; simp; omega
      go_wp2
      go_round
      case rel => exact ⟨k + 1, by omega, by go_num, fun j h1 => by (by_cases e : j = k; subst e; exact HT.out; exact HOK.out j (by omega))⟩
      case measure => simp [intOf]; omega
    · have HOK : Hid (upto (rin l most below) l.length = true) := upto_true fun j hj => hok j (by omega)
      clear hok
      go_wp2_with (go_at_call 69; refine (HR.out _ hr).mono ?_; rintro e w1 ⟨rfl, hb1⟩)
      go_ret
      exact ⟨ret_bool (by rw [HOK.out]; rfl), hb1⟩
end Go.Proofs.YthcngkcfopaigaaGreat

namespace Go.Proofs.YthcngkcfopaigaaGreat
open Go.RowKit
theorem leap_c (y : Int) (w : World) (h : 0 ≤ y) (h2 : y ≤ 1000000) : Calls Tryz.prog 145 #[.int .i64 y] w fun e w' => e = .returned (.bool (leap y)) ∧ w = w' := by
  go_enter Tryz.func145, Tryz.ntmps145
  go_wp2
  all_goals (go_ret; refine ⟨ret_bool ?_, rfl⟩; simp_all [leap]; try rfl)
theorem leapr_c (y : Int) (w : World) (h : 0 ≤ y) (h2 : y ≤ 1000000) : Calls Tryz.prog 121 #[.int .i64 y] w fun e w' => e = .returned (.bool (leap y)) ∧ w = w' := by
  go_enter Tryz.func121, Tryz.ntmps121
  go_wp2
  all_goals (go_ret; refine ⟨ret_bool ?_, rfl⟩; simp_all [leap]; try rfl)
theorem era_c (y : Int) (w : World) (h : 0 ≤ y) (h2 : y ≤ 1000000) : Calls Tryz.prog 124 #[.int .i64 y] w fun e w' => e = .returned (.int .i64 (era y)) ∧ w = w' := by
  go_enter Tryz.func124, Tryz.ntmps124
  go_wp2
  go_ret
  exact ⟨rfl, rfl⟩
theorem march_c (m : Int) (w : World) (h : 0 ≤ m) (h2 : m ≤ 1000000) : Calls Tryz.prog 125 #[.int .i64 m] w fun e w' => e = .returned (.int .i64 (march m)) ∧ w = w' := by
  go_enter Tryz.func125, Tryz.ntmps125
  go_wp2
  go_ret
  exact ⟨rfl, rfl⟩
theorem first_c (w : World) : Calls Tryz.prog 123 #[] w fun e w' => e = .returned (.int .i64 693901) ∧ w = w' := by
  go_enter Tryz.func123, Tryz.ntmps123
  go_wp2_with (first | (go_at_call 124; refine (era_c _ _ (by omega) (by omega)).mono ?_; rintro e w' ⟨rfl, rfl⟩) | (go_at_call 125; refine (march_c _ _ (by omega) (by omega)).mono ?_; rintro e w' ⟨rfl, rfl⟩))
  go_ret
  exact ⟨ret_int (by decide +kernel), rfl⟩
theorem weekday_c (n : Int) (w : World) (_h : -1000000000 ≤ n) (_h2 : n ≤ 1000000000) : Calls Tryz.prog 133 #[.int .i64 n] w fun e w' => e = .returned (.int .i64 (n % 7)) ∧ w = w' := by
  have hb : -7 < n.tmod 7 ∧ n.tmod 7 < 7 := ⟨by have := Int.lt_tmod_of_pos n (b := 7) (by omega); omega, Int.tmod_lt_of_pos _ (by omega)⟩
  have he : (n.tmod 7 + 7).tmod 7 = n % 7 := by
    rw [Int.tmod_eq_emod_of_nonneg (by omega)]
    have := Int.tmod_eq_emod (a := n) (b := 7)
    rw [this] at hb ⊢
    split at hb <;> split <;> omega
  obtain ⟨h3, h4⟩ := hb
  have HE : Hid ((n.tmod 7 + 7).tmod 7 = n % 7) := he
  clear he
  go_enter Tryz.func133, Tryz.ntmps133
  go_wp2
  go_ret
  exact ⟨ret_int (by rw [← Int.tmod_eq_emod_of_nonneg (by omega)]; exact HE.out), rfl⟩
theorem length_c (y m : Int) (w : World) (h : 0 ≤ y) (h2 : y ≤ 1000000) : Calls Tryz.prog 140 #[.int .i64 y, .int .i64 m] w fun e w' => e = .returned (.int .i64 (mlen y m)) ∧ w = w' := by
  go_enter Tryz.func140, Tryz.ntmps140
  go_wp2_with (go_at_call 145; refine (leap_c _ _ h h2).mono ?_; rintro e w' ⟨rfl, rfl⟩)
  all_goals (go_ret; refine ⟨ret_int ?_, rfl⟩; simp_all [mlen])
theorem dmay_t {y m d : Int} (h1 : 1900 ≤ y) (h2 : y ≤ 2200) (h3 : 1 ≤ d) : dmay y m d = decide (d ≤ mlen y m) := by simp [dmay, h1, h2, h3]
theorem dmay_f {y m d : Int} (h : ¬ (1900 ≤ y ∧ y ≤ 2200 ∧ 1 ≤ d)) : dmay y m d = false := by
  simp only [dmay, Bool.and_eq_false_iff, decide_eq_false_iff_not]; omega
theorem may_c (y m d : Int) (w : World) : Calls Tryz.prog 143 #[.agg #[.int .i64 y, .int .i64 m, .int .i64 d]] w fun e w' => e = .returned (.bool (dmay y m d)) ∧ Below w.heap.size w w' := by
  by_cases h1 : 1900 ≤ y
  · by_cases h2 : y ≤ 2200
    · by_cases h3 : 1 ≤ d
      · have HD := Hid.mk (dmay_t (m := m) h1 h2 h3)
        go_enter Tryz.func143, Tryz.ntmps143
        go_wp2
        go_quiet ((go_at_call 140; exact Calls.quiet_of_same ((length_c _ _ _ (by omega) (by omega)).mono fun _ _ h => ⟨h.1, h.2.symm⟩)))
        go_wp2
        go_ret
        exact ⟨ret_bool HD.out.symm, blw⟩
      all_goals
        have HD := Hid.mk (dmay_f (y := y) (m := m) (d := d) (by omega))
        have hd := decide_eq_false h3
        clear h3
        go_enter Tryz.func143, Tryz.ntmps143
        go_wp2
        go_quiet (fail)
        go_wp2
        go_ret
        exact ⟨ret_bool HD.out.symm, blw⟩
    all_goals
      have HD := Hid.mk (dmay_f (y := y) (m := m) (d := d) (by omega))
      have hd := decide_eq_false h2
      clear h2
      go_enter Tryz.func143, Tryz.ntmps143
      go_wp2
      go_quiet (fail)
      go_wp2
      go_ret
      exact ⟨ret_bool HD.out.symm, blw⟩
  all_goals
    have HD := Hid.mk (dmay_f (y := y) (m := m) (d := d) (by omega))
    have hd := decide_eq_false h1
    clear h1
    go_enter Tryz.func143, Tryz.ntmps143
    go_wp2
    go_quiet (fail)
    go_wp2
    go_ret
    exact ⟨ret_bool HD.out.symm, blw⟩
theorem shifted_c (y m d : Int) (w : World) (h : 0 ≤ y) (h2 : y ≤ 1000000) (h3 : 1 ≤ m) (h4 : m ≤ 12) : Calls Tryz.prog 144 #[.agg #[.int .i64 y, .int .i64 m, .int .i64 d]] w fun e w' => e = .returned (.tuple #[.int .i64 (if m < 3 then y - 1 else y), .int .i64 (if m < 3 then m + 9 else m - 3)]) ∧ Below w.heap.size w w' := by
  by_cases hm : m < 3
  all_goals
    simp only [hm, if_true, if_false]
    go_enter Tryz.func144, Tryz.ntmps144
    go_wp2
    go_quiet (fail)
    go_wp2
    go_ret2
    exact ⟨rfl, blw⟩
theorem number_c (y m d : Int) (w : World) : Calls Tryz.prog 139 #[.agg #[.int .i64 y, .int .i64 m, .int .i64 d]] w fun e w' => e = .returned (.tuple #[.int .i64 (if dmay y m d then dnum y m d else 0), .bool (dmay y m d)]) ∧ Below w.heap.size w w' := by
  cases hv : dmay y m d with
  | false =>
    have HV := Hid.mk hv
    clear hv
    go_enter Tryz.func139, Tryz.ntmps139
    go_wp2_with (go_at_call 143; refine (may_c _ _ _ _).mono ?_; rw [HV.out]; rintro e w1 ⟨rfl, hb1⟩)
    go_ret2
    exact ⟨rfl, by have := hb1; exact bl_step blw this⟩
  | true =>
    have hv' := (dmay_iff y m d).1 hv
    obtain ⟨a1, a2, a3, a4, a5, a6⟩ := hv'
    have HV := Hid.mk hv
    have a7 := (mlen_le y m).2
    have HN : Hid (dnum y m d = era (if m < 3 then y - 1 else y) + march (if m < 3 then m + 9 else m - 3) + d - 1 - 693901) := by
      unfold Hid dnum; split <;> rfl
    have b1 : 0 ≤ era (if m < 3 then y - 1 else y) ∧ era (if m < 3 then y - 1 else y) ≤ 1000000 := by unfold era; split <;> omega
    have b2 : 0 ≤ march (if m < 3 then m + 9 else m - 3) ∧ march (if m < 3 then m + 9 else m - 3) ≤ 400 := by unfold march; split <;> omega
    have b3 : 0 ≤ (if m < 3 then y - 1 else y) ∧ (if m < 3 then y - 1 else y) ≤ 1000000 := by split <;> omega
    have b4 : 0 ≤ (if m < 3 then m + 9 else m - 3) ∧ (if m < 3 then m + 9 else m - 3) ≤ 1000000 := by split <;> omega
    clear hv
    have HS := shifted_c y m d
    generalize hy : (if m < 3 then y - 1 else y) = y2 at *
    generalize hm : (if m < 3 then m + 9 else m - 3) = m2 at *
    clear hy hm
    obtain ⟨b1, b1'⟩ := b1
    obtain ⟨b2, b2'⟩ := b2
    obtain ⟨b3, b3'⟩ := b3
    obtain ⟨b4, b4'⟩ := b4
    have HS := Hid.mk HS
    go_enter Tryz.func139, Tryz.ntmps139
    go_wp2_with (first | (go_at_call 143; refine (may_c _ _ _ _).mono ?_; rw [HV.out]; rintro e w1 ⟨rfl, hb1⟩; obtain ⟨hc, hf⟩ := bcell hb1; have hz := hb1.size) | (go_at_call 144; refine (HS.out _ (by omega) (by omega) (by omega) (by omega)).mono ?_; rintro e w2 ⟨rfl, hb2⟩; have hb3 := bl_step hb1 hb2; have c2 := box_get hb3 2 rfl))
    go_quiet (first | (go_at_call 124; exact Calls.quiet_of_same ((era_c _ _ (by omega) (by omega)).mono fun _ _ h => ⟨h.1, h.2.symm⟩)) | (go_at_call 125; exact Calls.quiet_of_same ((march_c _ _ (by omega) (by omega)).mono fun _ _ h => ⟨h.1, h.2.symm⟩)) | (go_at_call 123; exact Calls.quiet_of_same ((first_c _).mono fun _ _ h => ⟨h.1, h.2.symm⟩)))
    go_wp2
    go_ret2
    exact ⟨by rw [HN.out]; rfl, bl_drewN (bl_step (bl_alloc (Below.refl _ _) _) hb3) _⟩
end Go.Proofs.YthcngkcfopaigaaGreat

namespace Go.Proofs.YthcngkcfopaigaaGreat
open Go.RowKit
set_option maxHeartbeats 1000000 in
theorem lengthr_c (y m : Int) (w : World) (h : 0 ≤ y) (h2 : y ≤ 1000000) : Calls Tryz.prog 96 #[.int .i64 y, .int .i64 m] w fun e w' => e = .returned (.int .i64 (mlen y m)) ∧ Below w.heap.size w w' := by
  by_cases hm : 1 ≤ m ∧ m ≤ 12
  · have hm2 : m = 1 ∨ m = 2 ∨ m = 3 ∨ m = 4 ∨ m = 5 ∨ m = 6 ∨ m = 7 ∨ m = 8 ∨ m = 9 ∨ m = 10 ∨ m = 11 ∨ m = 12 := by omega
    clear hm
    rcases hm2 with rfl | rfl | rfl | rfl | rfl | rfl | rfl | rfl | rfl | rfl | rfl | rfl
    all_goals
      go_enter Tryz.func96, Tryz.ntmps96
      go_wp2_with (go_at_call 121; refine (leapr_c _ _ h h2).mono ?_; rintro e w' ⟨rfl, rfl⟩)
      all_goals (go_ret; exact ⟨ret_int (by simp_all [mlen]), blw⟩)
  · have hl := mlen_out y m hm
    have HL := Hid.mk hl
    clear hl
    by_cases h1 : m < 1
    · go_enter Tryz.func96, Tryz.ntmps96
      go_wp2
      go_ret
      exact ⟨ret_int HL.out.symm, blw⟩
    · have h3 : 12 < m := by omega
      go_enter Tryz.func96, Tryz.ntmps96
      go_wp2
      go_ret
      exact ⟨ret_int HL.out.symm, blw⟩
end Go.Proofs.YthcngkcfopaigaaGreat

namespace Go.Proofs.YthcngkcfopaigaaGreat
open Go.RowKit
theorem has_yes {l : List Int} {x : Int} {k : Nat} (hk : k < l.length) (h : ig l k = x) : has l x = true := by
  unfold has; rw [List.any_eq_true]; exact ⟨l[k], List.getElem_mem hk, by rw [ig_eq hk] at h; simpa using h⟩
theorem has_no {l : List Int} {x : Int} (h : ∀ j, j < l.length → ig l j ≠ x) : has l x = false := by
  unfold has; rw [List.any_eq_false]
  intro y hy e
  obtain ⟨j, hj, rfl⟩ := List.mem_iff_getElem.1 hy
  exact h j hj (by rw [ig_eq hj]; simpa using e)
theorem index_c (a : Option Addr) (cap : Nat) (l : List Int) (x : Int) (w : World) (hr : Ints w a l) (hbig : l.length ≤ 1000000000000000000) :
    Calls Tryz.prog 141 #[.slice a l.length cap, .int .i64 x] w fun e w' => (∃ i : Int, e = .returned (.int .i64 i) ∧ decide (0 ≤ i) = has l x) ∧ w = w' := by
  go_enter Tryz.func141, Tryz.ntmps141
  go_wp2
  go_loop [8] (fun i => ∃ k : Nat, k ≤ l.length ∧ i = .int .i64 k ∧ (∀ j, j < k → ig l j ≠ x)) (fun i => l.length - (intOf i).toNat)
  case atStart => exact ⟨0, by omega, rfl, fun j h => by omega⟩
  case round =>
    obtain ⟨k, hk, rfl, hno⟩ := hrel
    by_cases hlt : k < l.length
    · obtain ⟨b, off, rfl, hcells⟩ := hr.ig hlt
      have c0 := hcells k hlt
      have HNO := Hid.mk hno
      have HR := Hid.mk hr
      clear hno hr hcells
      by_cases hxy : x = ig l k
      · have d1 : (x == ig l k) = true := by simpa using hxy
        have HX := Hid.mk hxy
        clear hxy
        go_wp2
        go_ret
        exact ⟨⟨k, rfl, by rw [has_yes hlt HX.out.symm]; simp⟩, rfl⟩
      · have d1 : (x == ig l k) = false := by simpa using hxy
        have HX := Hid.mk hxy
        clear hxy
        go_wp2
        go_round
        case rel => exact ⟨k + 1, by omega, by go_num, fun j h => by (by_cases e : j = k; subst e; exact fun h => HX.out h.symm; exact HNO.out j (by omega))⟩
        case measure => simp [intOf]; omega
    · have HNO := Hid.mk hno
      clear hno
      go_wp2
      go_ret
      exact ⟨⟨-1, rfl, by rw [has_no fun j hj => HNO.out j (by omega)]; rfl⟩, rfl⟩
theorem contains_c (a : Option Addr) (cap : Nat) (l : List Int) (x : Int) (w : World) (hr : Ints w a l) (hbig : l.length ≤ 1000000000000000000) :
    Calls Tryz.prog 135 #[.slice a l.length cap, .int .i64 x] w fun e w' => e = .returned (.bool (has l x)) ∧ w = w' := by
  go_enter Tryz.func135, Tryz.ntmps135
  have HI := Hid.mk (index_c a cap l x w hr hbig)
  generalize has l x = v at *
  clear hr
  go_wp2_with (go_at_call 141; (refine HI.out.mono ?_); rintro e w' ⟨⟨i, rfl, hi⟩, rfl⟩)
  go_ret
  exact ⟨ret_bool (by first | exact hi | (simp; exact hi) | simp), rfl⟩
end Go.Proofs.YthcngkcfopaigaaGreat

namespace Go.Proofs.YthcngkcfopaigaaGreat
open Go.RowKit
def nthOne (x : Int × Int) (d long wd : Int) : Bool := decide (x.2 = wd) && (decide (x.1 = 0) || decide (x.1 = (d - 1) / 7 + 1) || decide (x.1 = -((long - d) / 7 + 1)))
set_option maxHeartbeats 2000000 in
theorem nth1_c (n dw d long wd : Int) (p1 p2 p3 : Nat) (w : World) (h1 : w.cell? ⟨p1, 0, none⟩ = some (.int .i64 wd)) (h2 : w.cell? ⟨p2, 2, none⟩ = some (.int .i64 d)) (h3 : w.cell? ⟨p3, 0, none⟩ = some (.int .i64 long))
    (b1 : 1 ≤ d) (b2 : d ≤ long) (b3 : long ≤ 31) :
    Calls Tryz.prog 147 #[.agg #[.int .i64 n, .int .i64 dw], .pointer (some ⟨p1, 0, none⟩), .pointer (some ⟨p2, 0, none⟩), .pointer (some ⟨p3, 0, none⟩)] w fun e w' => e = .returned (.bool (nthOne (n, dw) d long wd)) ∧ Below w.heap.size w w' := by
  have z1 := block_lt h1
  have z2 := block_lt h2
  have z3 := block_lt h3
  by_cases g1 : dw = wd
  rotate_left
  · have d1 : (dw == wd) = false := by simpa using g1
    have HF : Hid (nthOne (n, dw) d long wd = false) := by simp only [Hid, nthOne]; simp [g1]
    generalize nthOne (n, dw) d long wd = v at *
    clear g1
    (try clear g2)
    (try clear g3)
    (try clear g4)
    go_enter Tryz.func147, Tryz.ntmps147
    go_wp2
    go_ret
    exact ⟨ret_bool HF.out.symm, blw⟩
  have d1 : (dw == wd) = true := by simpa using g1
  by_cases g2 : n = 0
  · have d2 : (n == 0) = true := by simpa using g2
    have HF : Hid (nthOne (n, dw) d long wd = true) := by simp only [Hid, nthOne]; simp [g1, g2]
    generalize nthOne (n, dw) d long wd = v at *
    clear g1
    (try clear g2)
    (try clear g3)
    (try clear g4)
    go_enter Tryz.func147, Tryz.ntmps147
    go_wp2
    go_ret
    exact ⟨ret_bool HF.out.symm, blw⟩
  have d2 : (n == 0) = false := by simpa using g2
  by_cases g3 : n = (d - 1) / 7 + 1
  · have d3 : (n == (d - 1) / 7 + 1) = true := by simpa using g3
    have HF : Hid (nthOne (n, dw) d long wd = true) := by simp only [Hid, nthOne]; simp [g1, g3]
    generalize nthOne (n, dw) d long wd = v at *
    clear g1
    (try clear g2)
    (try clear g3)
    (try clear g4)
    go_enter Tryz.func147, Tryz.ntmps147
    go_wp2
    go_ret
    exact ⟨ret_bool HF.out.symm, blw⟩
  have d3 : (n == (d - 1) / 7 + 1) = false := by simpa using g3
  by_cases g4 : n = -((long - d) / 7 + 1)
  · have d4 : (n == -((long - d) / 7 + 1)) = true := by simpa using g4
    have HF : Hid (nthOne (n, dw) d long wd = true) := by simp only [Hid, nthOne]; simp [g1, g4]
    generalize nthOne (n, dw) d long wd = v at *
    clear g1
    (try clear g2)
    (try clear g3)
    (try clear g4)
    go_enter Tryz.func147, Tryz.ntmps147
    go_wp2
    go_ret
    exact ⟨ret_bool HF.out.symm, blw⟩
  have d4 : (n == -((long - d) / 7 + 1)) = false := by simpa using g4
  have HF : Hid (nthOne (n, dw) d long wd = false) := by simp only [Hid, nthOne]; simp [g1, g2, g3, g4]
  generalize nthOne (n, dw) d long wd = v at *
  clear g1
  (try clear g2)
  (try clear g3)
  (try clear g4)
  go_enter Tryz.func147, Tryz.ntmps147
  go_wp2
  go_ret
  exact ⟨ret_bool HF.out.symm, blw⟩
end Go.Proofs.YthcngkcfopaigaaGreat

namespace Go.Proofs.YthcngkcfopaigaaGreat
open Go.RowKit
theorem nthB_eq (l : List (Int × Int)) (d long wd : Int) : nthB l d long wd = l.any fun x => nthOne x d long wd := rfl
theorem nthB_yes {l : List (Int × Int)} {d long wd : Int} {k : Nat} (hk : k < l.length) (h : nthOne (dn l k, dd l k) d long wd = true) : nthB l d long wd = true := by
  rw [nthB_eq, List.any_eq_true]
  refine ⟨l[k], List.getElem_mem hk, ?_⟩
  simpa [dn, dd, hk] using h
theorem nthB_no {l : List (Int × Int)} {d long wd : Int} (h : ∀ k, k < l.length → nthOne (dn l k, dd l k) d long wd = false) : nthB l d long wd = false := by
  rw [nthB_eq, List.any_eq_false]
  intro y hy e
  obtain ⟨j, hj, rfl⟩ := List.mem_iff_getElem.1 hy
  have := h j hj
  simp [dn, dd, hj] at this
  rw [this] at e
  exact absurd e (by simp)
set_option maxHeartbeats 2000000 in
theorem indexd_c (a : Option Addr) (cap : Nat) (l : List (Int × Int)) (d long wd : Int) (p1 p2 p3 : Nat) (w : World) (hr : Row 2 encD w a l) (hbig : l.length ≤ 1000000000000000000)
    (h1 : w.cell? ⟨p1, 0, none⟩ = some (.int .i64 wd)) (h2 : w.cell? ⟨p2, 2, none⟩ = some (.int .i64 d)) (h3 : w.cell? ⟨p3, 0, none⟩ = some (.int .i64 long))
    (b1 : 1 ≤ d) (b2 : d ≤ long) (b3 : long ≤ 31) :
    Calls Tryz.prog 148 #[.slice a l.length cap, .func (.func 147) #[] #[.pointer (some ⟨p1, 0, none⟩), .pointer (some ⟨p2, 0, none⟩), .pointer (some ⟨p3, 0, none⟩)]] w fun e w' =>
      (∃ i : Int, e = .returned (.int .i64 i) ∧ decide (0 ≤ i) = nthB l d long wd) ∧ Below w.heap.size w w' := by
  go_enter Tryz.func148, Tryz.ntmps148
  go_wp2
  go_loopw [8] (fun i wr => ∃ k : Nat, k ≤ l.length ∧ i = .int .i64 k ∧ (∀ j, j < k → nthOne (dn l j, dd l j) d long wd = false) ∧ Below w.heap.size w wr) (fun i _ => l.length - (intOf i).toNat)
  case atStart => exact ⟨0, by omega, rfl, fun j h => by omega, Below.refl _ _⟩
  case round =>
    obtain ⟨k, hk, rfl, hno, hB⟩ := hrel
    by_cases hlt : k < l.length
    · obtain ⟨b, off, rfl, hcells⟩ := (hr.below hB).get hlt
      obtain ⟨c0, c1⟩ := row_d hcells hlt
      have hbz := block_lt c0
      have HC := Hid.mk (nth1_c (dn l k) (dd l k) d long wd p1 p2 p3 wr (below_get hB h1) (below_get hB h2) (below_get hB h3) b1 b2 b3)
      have HNO := Hid.mk hno
      clear hno hr hcells h1 h2 h3
      cases hv : nthOne (dn l k, dd l k) d long wd with
      | true =>
        rw [hv] at HC
        have HV := Hid.mk hv
        clear hv
        generalize dn l k = X at c0 HC
        generalize dd l k = Y at c1 HC
        go_wp2_with (go_at_call 147; (refine HC.out.mono ?_); rintro e w' ⟨rfl, hb'⟩)
        go_ret
        exact ⟨⟨k, rfl, by rw [nthB_yes hlt HV.out]; simp⟩, bl_step hB hb'⟩
      | false =>
        rw [hv] at HC
        have HV := Hid.mk hv
        clear hv
        generalize dn l k = X at c0 HC
        generalize dd l k = Y at c1 HC
        go_wp2_with (go_at_call 147; (refine HC.out.mono ?_); rintro e w' ⟨rfl, hb'⟩)
        go_roundw
        case rel => exact ⟨k + 1, by omega, by go_num, fun j h => by (by_cases e : j = k; subst e; exact HV.out; exact HNO.out j (by omega)), bl_step hB hb'⟩
        case measure => simp [intOf]; omega
    · have HNO := Hid.mk hno
      clear hno
      go_wp2
      go_ret
      exact ⟨⟨-1, rfl, by rw [nthB_no fun j hj => HNO.out j (by omega)]; rfl⟩, hB⟩
theorem containsd_c (a : Option Addr) (cap : Nat) (l : List (Int × Int)) (d long wd : Int) (p1 p2 p3 : Nat) (w : World) (hr : Row 2 encD w a l) (hbig : l.length ≤ 1000000000000000000)
    (h1 : w.cell? ⟨p1, 0, none⟩ = some (.int .i64 wd)) (h2 : w.cell? ⟨p2, 2, none⟩ = some (.int .i64 d)) (h3 : w.cell? ⟨p3, 0, none⟩ = some (.int .i64 long))
    (b1 : 1 ≤ d) (b2 : d ≤ long) (b3 : long ≤ 31) :
    Calls Tryz.prog 146 #[.slice a l.length cap, .func (.func 147) #[] #[.pointer (some ⟨p1, 0, none⟩), .pointer (some ⟨p2, 0, none⟩), .pointer (some ⟨p3, 0, none⟩)]] w fun e w' =>
      e = .returned (.bool (nthB l d long wd)) ∧ Below w.heap.size w w' := by
  have HI := Hid.mk (indexd_c a cap l d long wd p1 p2 p3 w hr hbig h1 h2 h3 b1 b2 b3)
  go_enter Tryz.func146, Tryz.ntmps146
  generalize nthB l d long wd = v at *
  clear hr h1 h2 h3
  go_wp2_with (go_at_call 148; (refine HI.out.mono ?_); rintro e w' ⟨⟨i, rfl, hi⟩, hb'⟩)
  go_ret
  exact ⟨ret_bool (by first | exact hi | (simp; exact hi) | simp), hb'⟩
set_option maxHeartbeats 2000000 in
theorem nth_c (a : Option Addr) (cap : Nat) (l : List (Int × Int)) (y m d wd : Int) (w : World) (hr : Row 2 encD w a l) (hbig : l.length ≤ 1000000000000000000)
    (hy : 0 ≤ y) (hy2 : y ≤ 1000000) (b1 : 1 ≤ d) (b2 : d ≤ mlen y m) (b3 : mlen y m ≤ 31) :
    Calls Tryz.prog 142 #[.slice a l.length cap, .agg #[.int .i64 y, .int .i64 m, .int .i64 d], .int .i64 wd] w fun e w' =>
      e = .returned (.bool (nthB l d (mlen y m) wd)) ∧ Below w.heap.size w w' := by
  have HL := Hid.mk (fun w' => length_c y m w' hy hy2)
  have HC := Hid.mk (fun w' (hb : Below w.heap.size w w') p1 p2 p3 h1 h2 h3 => containsd_c a cap l d (mlen y m) wd p1 p2 p3 w' (hr.below hb) hbig h1 h2 h3 b1 b2 b3)
  generalize mlen y m = long at *
  clear hr
  have hmf : ∀ (fn : Fn) (first cap : Array Value) (w : World), (Instr.makeFunc fn first cap).run Tryz.prog w = .ok (.func fn first cap) w := fun _ _ _ _ => rfl
  go_enter Tryz.func142, Tryz.ntmps142
  go_wp2_with (first | (go_at_call 140; (refine (HL.out _).mono ?_); rintro e w' ⟨rfl, rfl⟩) | (go_at_call 146; (refine (HC.out _ blw _ _ _ ?_ ?_ ?_).mono ?_)))
  · rw [World.cell?_alloc_past _ _ _ (by simp), World.cell?_alloc_at _ _ _ _ (by simp)]; rfl
  · rw [World.cell?_alloc_past _ _ _ (by simp; omega), World.cell?_alloc_past _ _ _ (by simp), World.cell?_alloc_at _ _ _ _ rfl]; rfl
  · rw [World.cell?_alloc_at _ _ _ _ (by simp)]; rfl
  · rintro e w' ⟨rfl, hb'⟩
    go_wp2
    go_ret
    exact ⟨rfl, bl_step blw hb'⟩
end Go.Proofs.YthcngkcfopaigaaGreat

namespace Go.Proofs.YthcngkcfopaigaaGreat
open Go.RowKit
abbrev ruleC (r : RuleV) (a1 : Option Addr) (c1 : Nat) (a2 : Option Addr) (c2 : Nat) (a3 : Option Addr) (c3 : Nat) (a4 : Option Addr) (c4 : Nat) : Array Value :=
  #[.int .i64 r.freq, .int .i64 r.interval, .int .i64 r.count, .int .i64 r.till, .slice a1 r.byMonth.length c1, .slice a2 r.byMonthDay.length c2, .slice a3 r.byDay.length c3, .slice a4 r.bySetPos.length c4, .int .i64 r.start]
/-- where the rows of a rule lie -/
structure RuleAt (w : World) (r : RuleV) (a1 a2 a3 a4 : Option Addr) : Prop where
  r1 : Ints w a1 r.byMonth
  r2 : Ints w a2 r.byMonthDay
  r3 : Row 2 encD w a3 r.byDay
  r4 : Ints w a4 r.bySetPos
  b1 : r.byMonth.length ≤ 1000000000000000
  b2 : r.byMonthDay.length ≤ 1000000000000000
  b3 : r.byDay.length ≤ 1000000000000000
  b4 : r.bySetPos.length ≤ 1000000000000000
theorem RuleAt.below {w w' : World} {r : RuleV} {a1 a2 a3 a4 : Option Addr} (h : RuleAt w r a1 a2 a3 a4) (hb : Below w.heap.size w w') : RuleAt w' r a1 a2 a3 a4 :=
  ⟨h.r1.below hb, h.r2.below hb, h.r3.below hb, h.r4.below hb, h.b1, h.b2, h.b3, h.b4⟩
theorem dayless_c (n1 d1 n2 d2 : Int) (w : World) : Calls Tryz.prog 72 #[.agg #[.int .i64 n1, .int .i64 d1], .agg #[.int .i64 n2, .int .i64 d2]] w fun e w' => e = .returned (.bool (decide (n1 < n2) || (decide (n1 = n2) && decide (d1 < d2)))) ∧ Below w.heap.size w w' := by
  by_cases h1 : n1 < n2
  · have e1 := decide_eq_true h1
    go_enter Tryz.func72, Tryz.ntmps72
    go_wp2
    go_ret
    exact ⟨ret_bool (by rw [e1]; rfl), blw⟩
  have e1 := decide_eq_false h1
  by_cases h2 : n1 = n2
  · have e2 : (n1 == n2) = true := by simpa using h2
    have H2 : Hid (decide (n1 = n2) = true) := decide_eq_true h2
    clear h2
    go_enter Tryz.func72, Tryz.ntmps72
    go_wp2
    go_ret
    exact ⟨ret_bool (by rw [H2.out]; simp), blw⟩
  · have e2 : (n1 == n2) = false := by simpa using h2
    have H2 : Hid (decide (n1 = n2) = false) := decide_eq_false h2
    clear h2
    go_enter Tryz.func72, Tryz.ntmps72
    go_wp2
    go_ret
    exact ⟨ret_bool (by rw [H2.out]; rfl), blw⟩
set_option maxRecDepth 100000 in
set_option maxHeartbeats 1000000 in
theorem risesd_c (a : Option Addr) (cap : Nat) (l : List (Int × Int)) (w : World) (hr : Row 2 encD w a l) (hbig : l.length ≤ 1000000000000000000) :
    Calls Tryz.prog 71 #[.slice a l.length cap, .func (.func 72) #[] #[]] w fun e w' => e = .returned (.bool (upto (dup l) l.length)) ∧ Below w.heap.size w w' := by
  go_enter Tryz.func71, Tryz.ntmps71
  go_wp2
  go_loopw [5] (fun i wr => ∃ k : Nat, 1 ≤ k ∧ (k ≤ l.length ∨ k = 1) ∧ i = .int .i64 k ∧ (∀ j, j < k → j < l.length → dup l j = true) ∧ Below w.heap.size w wr) (fun i _ => l.length - (intOf i).toNat)
  case atStart => exact ⟨1, Nat.le_refl _, .inr rfl, rfl, fun j h _ => by (obtain rfl : j = 0 := by omega); rfl, Below.refl _ _⟩
  case round =>
    obtain ⟨k, k1, k2, rfl, hok, hB⟩ := hrel
    by_cases hlt : k < l.length
    · obtain ⟨b, off, rfl, hcells⟩ := (hr.below hB).get hlt
      obtain ⟨x0, x1⟩ := row_d hcells hlt
      obtain ⟨y0, y1⟩ := row_d hcells (k := k - 1) (by omega)
      have c0 := fun p : Wb wr => below_get p.2 x0
      have c1 := fun p : Wb wr => below_get p.2 x1
      have c2 := fun p : Wb wr => below_get p.2 y0
      have c3 := fun p : Wb wr => below_get p.2 y1
      have HOK := Hid.mk hok
      have HR := Hid.mk hr
      have HU : Hid (dup l k = (decide (dn l (k - 1) < dn l k) || (decide (dn l (k - 1) = dn l k) && decide (dd l (k - 1) < dd l k)))) := by unfold Hid dup dless; simp; omega
      clear hok hr hcells x0 x1 y0 y1
      generalize dn l (k - 1) = X at *
      generalize dn l k = Y at *
      generalize dd l (k - 1) = X' at *
      generalize dd l k = Y' at *
      cases hb : (decide (X < Y) || (decide (X = Y) && decide (X' < Y'))) with
      | true =>
        have HB := Hid.mk hb
        clear hb
        go_wp2
        refine wp_region_below (by kernel_rfl) (by kernel_rfl) ?_
        repeat (go_big_quiet_step ((go_at_call 72; exact wb_call _ (HB.out ▸ dayless_c _ _ _ _ _))))
        refine wpQuiet_nil ?_
        intro _ hw'
        obtain ⟨⟨w2, hb2⟩, rfl⟩ := hw'
        go_wp2
        go_roundw
        case rel => exact ⟨k + 1, by omega, .inl (by omega), by go_num, fun j h1 h2 => by (by_cases e : j = k; subst e; rw [HU.out]; exact HB.out; exact HOK.out j (by omega) h2), bl_step hB hb2⟩
        case measure => simp [intOf]; omega
      | false =>
        have HB := Hid.mk hb
        clear hb
        go_wp2
        refine wp_region_below (by kernel_rfl) (by kernel_rfl) ?_
        repeat (go_big_quiet_step ((go_at_call 72; exact wb_call _ (HB.out ▸ dayless_c _ _ _ _ _))))
        refine wpQuiet_nil ?_
        intro _ hw'
        obtain ⟨⟨w2, hb2⟩, rfl⟩ := hw'
        go_wp2
        go_ret
        exact ⟨ret_bool (upto_false hlt (by rw [HU.out]; exact HB.out)).symm, bl_step hB hb2⟩
    · go_wp2
      go_ret
      exact ⟨ret_bool (upto_true fun j hj => hok j (by omega) hj).symm, hB⟩
set_option maxHeartbeats 4000000 in
theorem rdays_c (r : RuleV) (a1 : Option Addr) (c1 : Nat) (a2 : Option Addr) (c2 : Nat) (a3 : Option Addr) (c3 : Nat) (a4 : Option Addr) (c4 : Nat) (w : World) (hr : RuleAt w r a1 a2 a3 a4) :
    Calls Tryz.prog 46 #[.agg (ruleC r a1 c1 a2 c2 a3 c3 a4 c4)] w fun e w' => e = .returned (.bool (rdays r)) ∧ Below w.heap.size w w' := by
  rw [rdays_split]
  have h3 := hr.b3
  have h1 := hr.b1
  have HR := Hid.mk (fun w hr => risesd_c a3 c3 r.byDay w hr (by omega))
  have HR3 := Hid.mk hr.r3
  have hcase : (rnth r = true ∧ (r.freq == 3) = true) ∨ (rnth r = false ∧ (r.freq == 3) = false ∧ (r.freq == 4) = false) ∨ (rnth r = true ∧ (r.freq == 3) = false ∧ (r.freq == 4) = true ∧ 0 < r.byMonth.length) ∨ (rnth r = false ∧ (r.freq == 3) = false ∧ (r.freq == 4) = true ∧ ¬ 0 < r.byMonth.length) := by
    unfold rnth
    by_cases e1 : r.freq = 3
    · left; simp [e1]
    · right
      by_cases e2 : r.freq = 4
      · right
        by_cases e3 : 0 < r.byMonth.length
        · left; exact ⟨by simp [e2]; exact e3, by simp [e2], by simp [e2], e3⟩
        · right; exact ⟨by rw [decide_eq_false e3]; simp [e2], by simp [e2], by simp [e2], e3⟩
      · left; simp [e1, e2]
  clear hr
  rcases hcase with ⟨hn, e1⟩ | ⟨hn, e1, e2⟩ | ⟨hn, e1, e2, e3⟩ | ⟨hn, e1, e2, e3⟩
  all_goals
    have HN := Hid.mk hn
    clear hn
    try have e4 := decide_eq_true e3
    try have e4 := decide_eq_false e3
    go_enter Tryz.func46, Tryz.ntmps46
    go_wp2
    go_loopw [23] (fun i wr => ∃ k : Nat, k ≤ r.byDay.length ∧ i = .int .i64 k ∧ (∀ j, j < k → din r j = true) ∧ Below (w.alloc (.cells (ruleC r a1 c1 a2 c2 a3 c3 a4 c4) 28)).heap.size (w.alloc (.cells (ruleC r a1 c1 a2 c2 a3 c3 a4 c4) 28)) wr) (fun i _ => r.byDay.length - (intOf i).toNat)
    case atStart => exact ⟨0, Nat.zero_le _, rfl, fun j h => absurd h (Nat.not_lt_zero _), Below.refl _ _⟩
    case round =>
      obtain ⟨k, hk, rfl, hok, hB⟩ := hrel
      have hB2 : Below w.heap.size w wr := bl_step (bl_alloc (Below.refl _ _) _) hB
      have b6 := box_get hB 6 rfl
      by_cases hlt : k < r.byDay.length
      · obtain ⟨b, off, hab, hcells⟩ := (HR3.out.below hB2).get hlt
        obtain ⟨x0, x1⟩ := row_d hcells hlt
        have HOK := Hid.mk hok
        have HU : Hid (din r k = (decide (0 ≤ dd r.byDay k) && decide (dd r.byDay k ≤ 6) && decide (-5 ≤ dn r.byDay k) && decide (dn r.byDay k ≤ 5) && (decide (dn r.byDay k = 0) || rnth r))) := rfl
        clear hok hcells
        subst hab
        have hsz : w.heap.size < wr.heap.size := by have := hB.size; simp at this; omega
        generalize dn r.byDay k = N at *
        generalize dd r.byDay k = D at *
        by_cases g1 : D < 0
        · have d1 := decide_eq_true g1
          have HF : Hid (din r k = false) := by unfold Hid; rw [HU.out]; simp; omega
          go_wp2
          go_ret
          exact ⟨ret_bool (by rw [upto_false hlt HF.out]; rfl), blw⟩
        have d1 := decide_eq_false g1
        by_cases g2 : 6 < D
        · have d2 := decide_eq_true g2
          have HF : Hid (din r k = false) := by unfold Hid; rw [HU.out]; simp; omega
          go_wp2
          go_ret
          exact ⟨ret_bool (by rw [upto_false hlt HF.out]; rfl), blw⟩
        have d2 := decide_eq_false g2
        by_cases g3 : N < -5
        · have d3 := decide_eq_true g3
          have HF : Hid (din r k = false) := by unfold Hid; rw [HU.out]; simp; omega
          go_wp2
          go_ret
          exact ⟨ret_bool (by rw [upto_false hlt HF.out]; rfl), blw⟩
        have d3 := decide_eq_false g3
        by_cases g4 : 5 < N
        · have d4 := decide_eq_true g4
          have HF : Hid (din r k = false) := by unfold Hid; rw [HU.out]; simp; omega
          go_wp2
          go_ret
          exact ⟨ret_bool (by rw [upto_false hlt HF.out]; rfl), blw⟩
        have d4 := decide_eq_false g4
        by_cases g5 : N = 0
        · have d5 : (N != 0) = false := by simpa using g5
          have HG : Hid (decide (N = 0) = true) := decide_eq_true g5
          clear g5
          have HT2 : Hid (din r k = true) := by unfold Hid; rw [HU.out, HG.out]; simp; omega
          go_wp2
          go_roundw
          case rel => first | exact ⟨k + 1, by omega, by go_num, fun j h1 => by (by_cases e : j = k; subst e; exact HT2.out; exact HOK.out j (by omega)), blw⟩ | ((repeat apply Exists.intro); exact ⟨⟨k + 1, by omega, by go_num, fun j h1 => by (by_cases e : j = k; subst e; exact HT2.out; exact HOK.out j (by omega)), blw⟩, rfl⟩)
          case measure => simp [intOf]; omega
        have d5 : (N != 0) = true := by simpa using g5
        have HG : Hid (decide (N = 0) = false) := decide_eq_false g5
        clear g5
        cases hv : rnth r with
        | true =>
          have HV := Hid.mk hv
          first
            | (exfalso; have := HN.out; rw [hv] at this; cases this; done)
            | (clear hv
               have HT2 : Hid (din r k = true) := by unfold Hid; rw [HU.out, HV.out]; simp; omega
               go_wp2
               go_roundw
               case rel => first | exact ⟨k + 1, by omega, by go_num, fun j h1 => by (by_cases e : j = k; subst e; exact HT2.out; exact HOK.out j (by omega)), blw⟩ | ((repeat apply Exists.intro); exact ⟨⟨k + 1, by omega, by go_num, fun j h1 => by (by_cases e : j = k; subst e; exact HT2.out; exact HOK.out j (by omega)), blw⟩, rfl⟩)
               case measure => simp [intOf]; omega)
        | false =>
          have HV := Hid.mk hv
          first
            | (exfalso; have := HN.out; rw [hv] at this; cases this; done)
            | (clear hv
               have HF : Hid (din r k = false) := by unfold Hid; rw [HU.out, HG.out, HV.out]; simp
               go_wp2
               go_ret
               exact ⟨ret_bool (by rw [upto_false hlt HF.out]; rfl), blw⟩)
      · have HOK : Hid (upto (din r) r.byDay.length = true) := upto_true fun j hj => hok j (by omega)
        clear hok
        go_wp2_with (go_at_call 71; refine (HR.out _ (HR3.out.below hB2)).mono ?_; rintro e w1 ⟨rfl, hb1⟩)
        go_ret
        exact ⟨ret_bool (by rw [HOK.out]; rfl), bl_step hB2 hb1⟩
end Go.Proofs.YthcngkcfopaigaaGreat
