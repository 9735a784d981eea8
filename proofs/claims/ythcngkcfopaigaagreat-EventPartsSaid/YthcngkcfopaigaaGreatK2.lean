/- Plain words on recurrence: a rule's times. No program in sight.
Plain words on recurrence: what is handed out from a period on, and what lies between two stamps. No program in sight.
Plain words on recurrence: the days of a period, piece by piece. No program in sight.
Plain words on events. No program in sight. -/
import Derived.Test.YthcngkcfopaigaaGreatK1
namespace Go.Proofs.YthcngkcfopaigaaGreat
def clip (x : Int) : Int := max 0 (min 109938 x)
theorem clip_le {a n : Int} (h1 : n < 109938) (h0 : 0 ≤ n) : clip a ≤ n ↔ a ≤ n := by unfold clip; omega
theorem lt_clip {b n : Int} (h0 : 0 ≤ n) (h1 : n < 109938) : n < clip b ↔ n < b := by unfold clip; omega
theorem clip_range (a : Int) : 0 ≤ clip a ∧ clip a ≤ 109938 := by unfold clip; omega
theorem clip_mono {a b : Int} (h : a ≤ b) : clip a ≤ clip b := by unfold clip; omega
theorem clip_over {a : Int} (h : 109938 ≤ a) : clip a = 109938 := by unfold clip; omega
/-- the days of a period that are right -/
def plist (r : RuleV) (s p : Int) : List Int := daysIn (good r s) (clip (pfirst r s p)) (clip (pfirst r s (p + 1)))
theorem mem_plist {r : RuleV} {s p n : Int} (hs0 : 0 ≤ s) (hs1 : s < 109938) : n ∈ plist r s p ↔ 0 ≤ n ∧ n < 109938 ∧ pnum r s n = p ∧ good r s n = true := by
  simp only [plist, mem_daysIn]
  constructor
  · rintro ⟨h1, h2, h3⟩
    have := clip_range (pfirst r s p)
    have := clip_range (pfirst r s (p + 1))
    have h0 : 0 ≤ n := by omega
    have h9 : n < 109938 := by omega
    exact ⟨h0, h9, (pnum_iff r h0 h9 hs0 hs1).2 ⟨(clip_le h9 h0).1 h1, (lt_clip h0 h9).1 h2⟩, h3⟩
  · rintro ⟨h0, h9, h, h3⟩
    have := (pnum_iff r h0 h9 hs0 hs1).1 h
    exact ⟨(clip_le h9 h0).2 this.1, (lt_clip h0 h9).2 this.2, h3⟩
def keepAt (r : RuleV) (len i : Nat) : Bool := has r.bySetPos ((i : Int) + 1) || has r.bySetPos ((i : Int) - (len : Int))
def keptTo (r : RuleV) (l : List Int) (k : Nat) : List Int := ((List.range k).filter (keepAt r l.length)).map (ig l)
def kept (r : RuleV) (l : List Int) : List Int := if r.bySetPos.length = 0 then l else keptTo r l l.length
theorem keptTo_succ (r : RuleV) (l : List Int) (k : Nat) : keptTo r l (k + 1) = keptTo r l k ++ (if keepAt r l.length k then [ig l k] else []) := by
  simp only [keptTo, List.range_succ, List.filter_append, List.map_append, List.filter_cons, List.filter_nil]
  split <;> simp
theorem ig_eq {l : List Int} {i : Nat} (h : i < l.length) : ig l i = l[i] := by simp [ig, h]
theorem kept_sub {r : RuleV} {l : List Int} {n : Int} (h : n ∈ kept r l) : n ∈ l := by
  unfold kept at h
  split at h
  · exact h
  · simp only [keptTo, List.mem_map, List.mem_filter, List.mem_range] at h
    obtain ⟨i, ⟨hi, _⟩, rfl⟩ := h
    rw [ig_eq hi]; exact List.getElem_mem hi
theorem kept_sorted {r : RuleV} {l : List Int} (h : l.Pairwise (· < ·)) : (kept r l).Pairwise (· < ·) := by
  unfold kept
  split
  · exact h
  · unfold keptTo
    rw [List.pairwise_map]
    refine List.Pairwise.imp_of_mem (R := (· < ·)) ?_ ((List.pairwise_lt_range).filter _)
    intro a b ha hb hab
    have ha2 := (List.mem_range.1 (List.mem_filter.1 ha).1)
    have hb2 := (List.mem_range.1 (List.mem_filter.1 hb).1)
    rw [ig_eq ha2, ig_eq hb2]
    exact List.pairwise_iff_getElem.1 h a b ha2 hb2 hab
/-- is a day one of the rule's? -/
def sel (r : RuleV) (s n : Int) : Bool := decide (s ≤ n) && decide (pnum r s n % r.interval = 0) && decide (n ∈ kept r (plist r s (pnum r s n)))
def occ (r : RuleV) (s a b : Int) : List Int := daysIn (sel r s) a b
theorem sel_iff (r : RuleV) (s n : Int) : sel r s n = true ↔ s ≤ n ∧ pnum r s n % r.interval = 0 ∧ n ∈ kept r (plist r s (pnum r s n)) := by
  simp only [sel, Bool.and_eq_true, decide_eq_true_eq, and_assoc]
theorem kept_occ {r : RuleV} {s p : Int} (hs0 : 0 ≤ s) (hs1 : s < 109938) (hp : p % r.interval = 0) :
    (kept r (plist r s p)).filter (fun n => decide (s ≤ n)) = occ r s (clip (pfirst r s p)) (clip (pfirst r s (p + 1))) := by
  apply sorted_ext
  · exact (kept_sorted (daysIn_sorted _ _ _)).filter _
  · exact daysIn_sorted _ _ _
  intro n
  simp only [List.mem_filter, occ, mem_daysIn, sel_iff, decide_eq_true_eq]
  constructor
  · rintro ⟨h1, h2⟩
    have h3 := (mem_plist hs0 hs1).1 (kept_sub h1)
    obtain ⟨h0, h9, h4, h5⟩ := h3
    have h6 := (pnum_iff r h0 h9 hs0 hs1).1 h4
    exact ⟨(clip_le h9 h0).2 h6.1, (lt_clip h0 h9).2 h6.2, h2, by rw [h4]; exact hp, by rw [h4]; exact h1⟩
  · rintro ⟨h1, h2, h3, h4, h5⟩
    have := clip_range (pfirst r s p)
    have := clip_range (pfirst r s (p + 1))
    have h0 : 0 ≤ n := by omega
    have h9 : n < 109938 := by omega
    have h6 := (pnum_iff r h0 h9 hs0 hs1).2 ⟨(clip_le h9 h0).1 h1, (lt_clip h0 h9).1 h2⟩
    rw [h6] at h5
    exact ⟨h5, h3⟩
theorem occ_none {r : RuleV} {s p q : Int} (hs0 : 0 ≤ s) (hs1 : s < 109938) (h : ∀ k, p ≤ k → k < q → k % r.interval ≠ 0) : occ r s (clip (pfirst r s p)) (clip (pfirst r s q)) = [] := by
  rw [List.eq_nil_iff_forall_not_mem]
  intro n hn
  simp only [occ, mem_daysIn, sel_iff] at hn
  obtain ⟨h1, h2, h3, h4, h5⟩ := hn
  have := clip_range (pfirst r s p)
  have := clip_range (pfirst r s q)
  have h0 : 0 ≤ n := by omega
  have h9 : n < 109938 := by omega
  have h6 := (pnum_iff r h0 h9 hs0 hs1).1 rfl
  rw [clip_le h9 h0] at h1
  rw [lt_clip h0 h9] at h2
  refine h (pnum r s n) ?_ ?_ h4
  · by_cases hc : p ≤ pnum r s n
    · exact hc
    · have := pfirst_mono r s (show pnum r s n + 1 ≤ p by omega); omega
  · by_cases hc : pnum r s n < q
    · exact hc
    · have := pfirst_mono r s (show q ≤ pnum r s n by omega); omega
/-- the days of the periods from the j-th on, ahead of the k-th -/
def seen (r : RuleV) (s j k : Int) : List Int := occ r s (clip (pfirst r s (j * r.interval))) (clip (pfirst r s (k * r.interval)))
theorem seen_nil (r : RuleV) (s k : Int) : seen r s k k = [] := daysIn_nil (by omega)
theorem seen_next {r : RuleV} {s j k : Int} (hs0 : 0 ≤ s) (hs1 : s < 109938) (hi : 1 ≤ r.interval) (hjk : j ≤ k) :
    seen r s j (k + 1) = seen r s j k ++ (kept r (plist r s (k * r.interval))).filter (fun n => decide (s ≤ n)) := by
  have e : (k + 1) * r.interval = k * r.interval + r.interval := by rw [Int.add_mul, Int.one_mul]
  have h1 : j * r.interval ≤ k * r.interval := Int.mul_le_mul_of_nonneg_right hjk (by omega)
  have m1 := clip_mono (pfirst_mono r s h1)
  have m2 := clip_mono (pfirst_mono r s (show k * r.interval ≤ k * r.interval + 1 by omega))
  have m3 := clip_mono (pfirst_mono r s (show k * r.interval + 1 ≤ k * r.interval + r.interval by omega))
  rw [kept_occ hs0 hs1 (Int.mul_emod_left _ _)]
  unfold seen
  rw [e]
  have hn : occ r s (clip (pfirst r s (k * r.interval + 1))) (clip (pfirst r s (k * r.interval + r.interval))) = [] := by
    refine occ_none hs0 hs1 fun q hq1 hq2 hq3 => ?_
    obtain ⟨t, rfl⟩ : ∃ t, q = k * r.interval + t := ⟨q - k * r.interval, by omega⟩
    rw [Int.add_comm, Int.add_mul_emod_self_right, Int.emod_eq_of_lt (by omega) (by omega)] at hq3
    omega
  unfold occ at hn ⊢
  rw [daysIn_append m1 m2, ← daysIn_append (f := sel r s) (show clip (pfirst r s (j * r.interval)) ≤ clip (pfirst r s (k * r.interval + 1)) by omega) m3, hn, List.append_nil]
theorem seen_all {r : RuleV} {s j k : Int} (h : 109938 ≤ pfirst r s (k * r.interval)) : seen r s j k = occ r s (clip (pfirst r s (j * r.interval))) 109938 := by
  unfold seen; rw [clip_over h]
theorem occ_from {r : RuleV} {s a : Int} (ha : 0 ≤ a) (has : a ≤ s) (hs1 : s < 109938) : occ r s a 109938 = occ r s 0 109938 := by
  unfold occ
  rw [← daysIn_append (f := sel r s) ha (show a ≤ 109938 by omega)]
  have : daysIn (sel r s) 0 a = [] := by
    rw [List.eq_nil_iff_forall_not_mem]
    intro n hn
    simp only [mem_daysIn, sel_iff] at hn
    omega
  rw [this, List.nil_append]
/- the times -/
def tms (mi : Int) (l : List Int) : List Int := l.map fun n => n * 1440 + mi
def cut (r : RuleV) (l : List Int) : List Int := if 0 ≤ r.till then l.filter (fun x => decide (x ≤ r.till)) else if 0 < r.count then l.take r.count.toNat else l
def timesFrom (r : RuleV) (s mi a : Int) : List Int := cut r (tms mi (occ r s a 109938))
def allTimes (r : RuleV) (st : Int) : List Int := if rmay r = true ∧ 0 ≤ st ∧ st < 158310720 then timesFrom r (st / 1440) (st % 1440) 0 else []
theorem tms_sorted {mi : Int} {l : List Int} (h : l.Pairwise (· < ·)) : (tms mi l).Pairwise (· < ·) := by
  unfold tms; rw [List.pairwise_map]; exact h.imp (by intro a b h; omega)
theorem tms_append (mi : Int) (l m : List Int) : tms mi (l ++ m) = tms mi l ++ tms mi m := List.map_append
theorem cut_sub {r : RuleV} {l : List Int} : (cut r l).Sublist l := by
  unfold cut; split
  · exact List.filter_sublist
  · split
    · exact List.take_sublist _ _
    · exact List.Sublist.refl _
theorem allTimes_sorted (r : RuleV) (st : Int) : (allTimes r st).Pairwise (· < ·) := by
  unfold allTimes; split
  · exact (tms_sorted (daysIn_sorted _ _ _)).sublist cut_sub
  · exact List.Pairwise.nil
/-- what has come so far is not yet cut -/
def alive (r : RuleV) (l : List Int) : Prop := (0 ≤ r.till → ∀ x ∈ l, x ≤ r.till) ∧ (0 < r.count → (l.length : Int) ≤ r.count)
theorem alive_nil (r : RuleV) : alive r [] := ⟨by simp, by simp; omega⟩
theorem cut_alive {r : RuleV} {l : List Int} (h : alive r l) : cut r l = l := by
  unfold cut; split
  · rename_i ht
    rw [List.filter_eq_self]
    intro x hx; simpa using h.1 ht x hx
  · split
    · rename_i hc
      have := h.2 hc
      exact List.take_of_length_le (by omega)
    · rfl
theorem cut_till {r : RuleV} {l m : List Int} (h : alive r l) (ht : 0 ≤ r.till) (hm : ∀ x ∈ m, r.till < x) : cut r (l ++ m) = l := by
  unfold cut; rw [if_pos ht, List.filter_append]
  have e1 : l.filter (fun x => decide (x ≤ r.till)) = l := by
    rw [List.filter_eq_self]; intro x hx; simpa using h.1 ht x hx
  have e2 : m.filter (fun x => decide (x ≤ r.till)) = [] := by
    rw [List.filter_eq_nil_iff]; intro x hx; have := hm x hx; simp; omega
  rw [e1, e2, List.append_nil]
theorem cut_count {r : RuleV} {l m : List Int} (ht : ¬ 0 ≤ r.till) (hc : 0 < r.count) (hl : (l.length : Int) = r.count) : cut r (l ++ m) = l := by
  unfold cut; rw [if_neg ht, if_pos hc]
  have e : r.count.toNat = l.length := by omega
  rw [e, List.take_left]
theorem alive_snoc {r : RuleV} {l : List Int} {x : Int} (h : alive r l) (h1 : ¬ (0 ≤ r.till ∧ r.till < x)) (h2 : ¬ (0 < r.count ∧ (l.length : Int) = r.count)) : alive r (l ++ [x]) := by
  refine ⟨fun ht y hy => ?_, fun hc => ?_⟩
  · rw [List.mem_append, List.mem_singleton] at hy
    rcases hy with hy | rfl
    · exact h.1 ht y hy
    · omega
  · have := h.2 hc; rw [List.length_append, List.length_singleton]; omega
end Go.Proofs.YthcngkcfopaigaaGreat

namespace Go.Proofs.YthcngkcfopaigaaGreat
theorem pfirst_grow (r : RuleV) (s p : Int) (k : Nat) : pfirst r s p + k ≤ pfirst r s (p + k) := by
  induction k with
  | zero => simp
  | succ k ih =>
    have e : p + ((k + 1 : Nat) : Int) = p + k + 1 := by omega
    have := (pfirst_next r s (p + k)).1
    rw [e]; omega
theorem plong_pos (r : RuleV) : 1 ≤ plong r ∧ plong r ≤ 366 := by unfold plong; repeat' split <;> omega
/-- what the periods hand out from the k0-th on -/
def hand (r : RuleV) (s mi k0 : Int) : List Int := timesFrom r s mi (clip (pfirst r s (k0 * r.interval)))
def kfirst (r : RuleV) (s f : Int) : Int := if 0 < r.count ∨ f / 1440 - s ≤ 0 then 0 else max ((f / 1440 - s) / (plong r * r.interval) - 1) 0
theorem kfirst_bd (r : RuleV) {s f : Int} (hs : 0 ≤ s) (hf : 0 ≤ f) (hf2 : f ≤ 158310720) (hi : 1 ≤ r.interval) : 0 ≤ kfirst r s f ∧ kfirst r s f ≤ 109938 ∧ (0 < r.count → kfirst r s f = 0) := by
  unfold kfirst
  split
  · exact ⟨by omega, by omega, fun _ => rfl⟩
  · rename_i h
    have hp := plong_pos r
    have hL : 1 ≤ plong r * r.interval := by
      have := Int.mul_le_mul hp.1 hi (by omega) (by omega)
      omega
    have h1 : (f / 1440 - s) / (plong r * r.interval) ≤ f / 1440 - s := Int.ediv_le_self _ (by omega)
    refine ⟨by omega, by omega, fun hc => absurd (.inl hc) h⟩
theorem occ_mem {r : RuleV} {s a n : Int} (h : n ∈ occ r s a 109938) : a ≤ n ∧ n < 109938 ∧ s ≤ n := by
  simp only [occ, mem_daysIn, sel_iff] at h; omega
theorem timesFrom_mem {r : RuleV} {s mi a x : Int} (h : x ∈ timesFrom r s mi a) : ∃ n, n ∈ occ r s a 109938 ∧ x = n * 1440 + mi := by
  have := cut_sub.mem h
  simp only [tms, List.mem_map] at this
  obtain ⟨n, hn, rfl⟩ := this
  exact ⟨n, hn, rfl⟩
theorem hand_mem {r : RuleV} {s mi k x : Int} (hs : 0 ≤ s) (hm : 0 ≤ mi) (hm2 : mi < 1440) (h : x ∈ hand r s mi k) : 0 ≤ x ∧ x < 158310720 := by
  obtain ⟨n, hn, rfl⟩ := timesFrom_mem h
  have := occ_mem hn; omega
theorem hand_sorted (r : RuleV) (s mi k : Int) : (hand r s mi k).Pairwise (· < ·) := (tms_sorted (daysIn_sorted _ _ _)).sublist cut_sub
theorem hand_zero {r : RuleV} {s mi : Int} (hs0 : 0 ≤ s) (hs1 : s < 109938) : hand r s mi 0 = timesFrom r s mi 0 := by
  have := pfirst_zero r hs0 hs1
  have := clip_range (pfirst r s 0)
  unfold hand timesFrom
  rw [Int.zero_mul, occ_from (by omega) (by unfold clip; omega) hs1]
theorem hand_win {r : RuleV} {s mi f : Int} (hs0 : 0 ≤ s) (hs1 : s < 109938) (hm : 0 ≤ mi) (hm2 : mi < 1440) (hi : 1 ≤ r.interval) (_hf : 0 ≤ f) :
    (hand r s mi (kfirst r s f)).filter (fun x => decide (f ≤ x)) = (timesFrom r s mi 0).filter (fun x => decide (f ≤ x)) := by
  unfold kfirst
  split
  · rw [hand_zero hs0 hs1]
  · rename_i h
    have hc : ¬ 0 < r.count := fun e => h (.inl e)
    have hg : 0 < f / 1440 - s := by omega
    have hp := plong_pos r
    have hL : 1 ≤ plong r * r.interval := by
      have := Int.mul_le_mul hp.1 hi (by omega) (by omega)
      omega
    obtain ⟨k, hk⟩ : ∃ k : Nat, max ((f / 1440 - s) / (plong r * r.interval) - 1) 0 = (k : Int) := ⟨_, (Int.toNat_of_nonneg (by omega)).symm⟩
    have h1 : (f / 1440 - s) / (plong r * r.interval) * (plong r * r.interval) ≤ f / 1440 - s := Int.ediv_mul_le _ (by omega)
    have h2 : (k : Int) * (plong r * r.interval) ≤ f / 1440 - s := by
      by_cases h0 : k = 0
      · subst h0; simp; omega
      · have : (k : Int) ≤ (f / 1440 - s) / (plong r * r.interval) := by omega
        have := Int.mul_le_mul_of_nonneg_right this (show 0 ≤ plong r * r.interval by omega)
        omega
    rw [hk]
    have h3 : pfirst r s ((k : Int) * r.interval) ≤ f / 1440 := by
      obtain ⟨i, hi'⟩ : ∃ i : Nat, r.interval = (i : Int) := ⟨_, (Int.toNat_of_nonneg (by omega)).symm⟩
      have := pfirst_far r s 0 (k * i)
      have h0 := pfirst_zero r hs0 hs1
      rw [Int.zero_add, Int.natCast_mul, ← hi'] at this
      have e : plong r * ((k : Int) * r.interval) = (k : Int) * (plong r * r.interval) := by rw [Int.mul_left_comm]
      omega
    unfold hand timesFrom
    generalize ha : clip (pfirst r s ((k : Int) * r.interval)) = a
    have ha0 : 0 ≤ a ∧ a ≤ 109938 := by rw [← ha]; exact clip_range _
    have ha1 : a ≤ f / 1440 := by rw [← ha]; unfold clip; omega
    have e : occ r s 0 109938 = occ r s 0 a ++ occ r s a 109938 := (daysIn_append ha0.1 ha0.2).symm
    have e2 : ∀ p : Int → Bool, ((tms mi (occ r s 0 a)).filter p).filter (fun x => decide (f ≤ x)) = [] := by
      intro p
      rw [List.filter_eq_nil_iff]
      intro x hx
      have hx := (List.mem_filter.1 hx).1
      simp only [tms, List.mem_map] at hx
      obtain ⟨n, hn, rfl⟩ := hx
      simp only [occ, mem_daysIn] at hn
      simp; omega
    rw [e, tms_append]
    unfold cut
    split
    · rw [List.filter_append, List.filter_append, e2, List.nil_append]
    · (try rw [if_neg hc, if_neg hc])
      rw [List.filter_append]
      have := e2 (fun _ => true)
      rw [List.filter_eq_self.2 (fun _ _ => rfl)] at this
      rw [this, List.nil_append]
/-- the times between two stamps -/
def betw (r : RuleV) (st f t : Int) : List Int := (allTimes r st).filter (fun x => decide (f ≤ x) && decide (x < t))
theorem betw_mem {r : RuleV} {st f t x : Int} : x ∈ betw r st f t ↔ x ∈ allTimes r st ∧ f ≤ x ∧ x < t := by
  simp [betw, List.mem_filter]
theorem betw_sorted (r : RuleV) (st f t : Int) : (betw r st f t).Pairwise (· < ·) := (allTimes_sorted r st).filter _
theorem allTimes_mem {r : RuleV} {st x : Int} (h : x ∈ allTimes r st) : 0 ≤ x ∧ x < 158310720 ∧ st ≤ x ∧ x % 1440 = st % 1440 := by
  unfold allTimes at h
  split at h
  · rename_i hh
    obtain ⟨n, hn, rfl⟩ := timesFrom_mem h
    have := occ_mem hn
    omega
  · simp at h
def fclip (f : Int) : Int := min (max f 0) 158310720
theorem hand_betw {r : RuleV} {st f t : Int} (hr : rmay r = true) (h0 : 0 ≤ st) (h1 : st < 158310720) (hi : 1 ≤ r.interval) :
    (hand r (st / 1440) (st % 1440) (kfirst r (st / 1440) (fclip f))).filter (fun x => decide (f ≤ x) && decide (x < t)) = betw r st f t := by
  have h := hand_win (r := r) (s := st / 1440) (mi := st % 1440) (f := fclip f) (by omega) (by omega) (by omega) (by omega) hi (by unfold fclip; omega)
  have e : ∀ l : List Int, (∀ x ∈ l, 0 ≤ x ∧ x < 158310720) → l.filter (fun x => decide (f ≤ x) && decide (x < t)) = (l.filter (fun x => decide (fclip f ≤ x))).filter (fun x => decide (x < t)) := by
    intro l hl
    rw [List.filter_filter]
    apply List.filter_congr
    intro x hx
    have := hl x hx
    have e2 : decide (f ≤ x) = decide (fclip f ≤ x) := by
      rw [decide_eq_decide]; unfold fclip; omega
    rw [e2, Bool.and_comm]
  unfold betw allTimes
  rw [if_pos ⟨hr, h0, h1⟩, e _ (fun x hx => hand_mem (by omega) (by omega) (by omega) hx), h, ← e]
  intro x hx
  rw [← hand_zero (by omega) (by omega)] at hx
  exact hand_mem (by omega) (by omega) (by omega) hx
/-- a walk through rising numbers that stops at the first that is too great -/
theorem filter_stop {l : List Int} {f t : Int} {pre : List Int} {x : Int} (hs : l.Pairwise (· < ·)) (h : pre ++ [x] <+: l) (hpre : ∀ y ∈ pre, y < t) (hx : t ≤ x) :
    pre.filter (fun x => decide (f ≤ x)) = l.filter (fun x => decide (f ≤ x) && decide (x < t)) := by
  obtain ⟨rest, rfl⟩ := h
  rw [List.append_assoc, List.pairwise_append] at hs
  have hr : ∀ y ∈ [x] ++ rest, t ≤ y := by
    intro y hy
    simp only [List.singleton_append, List.mem_cons] at hy
    rcases hy with rfl | hy
    · exact hx
    · have h2 := hs.2.1
      rw [List.singleton_append, List.pairwise_cons] at h2
      have := h2.1 y hy; omega
  rw [List.append_assoc, List.filter_append]
  have e1 : ([x] ++ rest).filter (fun x => decide (f ≤ x) && decide (x < t)) = [] := by
    rw [List.filter_eq_nil_iff]; intro y hy; have := hr y hy; simp; omega
  rw [e1, List.append_nil]
  apply List.filter_congr
  intro y hy
  have := hpre y hy
  simp [this]
theorem filter_all {l : List Int} {f t : Int} (hpre : ∀ y ∈ l, y < t) : l.filter (fun x => decide (f ≤ x)) = l.filter (fun x => decide (f ≤ x) && decide (x < t)) := by
  apply List.filter_congr
  intro y hy
  have := hpre y hy
  simp [this]
theorem pairwise_lt_length {l : List Int} {a b : Int} (hs : l.Pairwise (· < ·)) (h : ∀ x ∈ l, a ≤ x ∧ x < b) (hab : a ≤ b) : (l.length : Int) ≤ b - a := by
  induction l generalizing a with
  | nil => simp; omega
  | cons x l ih =>
    rw [List.pairwise_cons] at hs
    have hx := h x (by simp)
    have := ih (a := x + 1) hs.2 (fun y hy => by have := hs.1 y hy; have := h y (by simp [hy]); omega) (by omega)
    simp only [List.length_cons]; omega
/-- one a day at most -/
theorem betw_length {r : RuleV} {st f t : Int} (h : f < t) : ((betw r st f t).length : Int) ≤ (t - f) / 1440 + 1 := by
  have hs : ((betw r st f t).map (fun x => x / 1440)).Pairwise (· < ·) := by
    rw [List.pairwise_map]
    refine List.Pairwise.imp_of_mem ?_ (betw_sorted r st f t)
    intro a b ha hb hab
    have h1 := allTimes_mem (betw_mem.1 ha).1
    have h2 := allTimes_mem (betw_mem.1 hb).1
    omega
  have hl := pairwise_lt_length (a := (f - st % 1440 + 1439) / 1440) (b := (t - 1 - st % 1440) / 1440 + 1) hs (by
    intro y hy
    rw [List.mem_map] at hy
    obtain ⟨x, hx, rfl⟩ := hy
    have h1 := allTimes_mem (betw_mem.1 hx).1
    have h2 := (betw_mem.1 hx).2
    omega) (by omega)
  rw [List.length_map] at hl
  omega
theorem betw_one (r : RuleV) (st x : Int) : (betw r st x (x + 1)).length = if x ∈ allTimes r st then 1 else 0 := by
  have h : betw r st x (x + 1) = if x ∈ allTimes r st then [x] else [] := by
    apply sorted_ext (betw_sorted _ _ _ _)
    · split <;> simp
    · intro y
      rw [betw_mem]
      split
      · rename_i hx
        simp only [List.mem_singleton]
        exact ⟨fun h => by omega, fun h => by subst h; exact ⟨hx, by omega, by omega⟩⟩
      · rename_i hx
        simp only [List.not_mem_nil, iff_false]
        rintro ⟨h1, h2, h3⟩
        exact hx (by have : y = x := by omega
                     rw [← this]; exact h1)
  rw [h]; split <;> rfl
end Go.Proofs.YthcngkcfopaigaaGreat

namespace Go.Proofs.YthcngkcfopaigaaGreat
theorem firstOf_mon {y m : Int} (h1 : 1 ≤ m) (h2 : m ≤ 12) : firstOf (12 * y + m - 1) = dnum y m 1 := by
  unfold firstOf
  rw [show (12 * y + m - 1) / 12 = y by omega, show (12 * y + m - 1) % 12 + 1 = m by omega]
theorem firstOf_mon_next {y m : Int} (h1 : 1 ≤ m) (h2 : m ≤ 12) : firstOf (12 * y + m) = dnum y m 1 + mlen y m := by
  have := firstOf_next (12 * y + m - 1)
  rw [show (12 * y + m - 1) / 12 = y by omega, show (12 * y + m - 1) % 12 + 1 = m by omega, firstOf_mon h1 h2, show 12 * y + m - 1 + 1 = 12 * y + m by omega] at this
  exact this
theorem firstOf_end : firstOf (12 * 2201) = 109938 := by rw [firstOf_year]; exact dnum_last
theorem firstOf_begin : firstOf (12 * 1900) = 0 := by rw [firstOf_year]; exact dnum_first
theorem firstOf_lt {q : Int} : firstOf q < 109938 ↔ q / 12 ≤ 2200 := by
  constructor
  · intro h
    by_cases hc : q / 12 ≤ 2200
    · exact hc
    · have := firstOf_mono (show (12 * 2201 : Int) ≤ q by omega)
      rw [firstOf_end] at this; omega
  · intro h
    have h1 := firstOf_mono (show q + 1 ≤ (12 * 2201 : Int) by omega)
    have h2 := firstOf_gap q 1
    rw [firstOf_end] at h1
    have e : q + (1 : Nat) = q + 1 := rfl
    rw [e] at h2; omega
theorem mon_lt {y m : Int} (h1 : 1 ≤ m) (h2 : m ≤ 12) : dnum y m 1 < 109938 ↔ y ≤ 2200 := by
  rw [← firstOf_mon h1 h2, firstOf_lt]; omega
theorem mon_bd {y m : Int} (h0 : 1900 ≤ y) (h3 : y ≤ 200000) (h1 : 1 ≤ m) (h2 : m ≤ 12) : 0 ≤ dnum y m 1 ∧ dnum y m 1 ≤ 100000000 := by
  have a := firstOf_mono (show (12 * 1900 : Int) ≤ 12 * y + m - 1 by omega)
  rw [firstOf_begin, firstOf_mon h1 h2] at a
  refine ⟨a, ?_⟩
  simp only [dnum, era, march]; split <;> omega
theorem mon_day {n y m : Int} (h0 : 0 ≤ n) (h9 : n < 109938) (h1 : 1 ≤ m) (h2 : m ≤ 12) (ha : dnum y m 1 ≤ n) (hb : n < dnum y m 1 + mlen y m) : yr n = y ∧ mo n = m := by
  have h := (month_iff (q := 12 * y + m - 1) h0 h9).2 ⟨by rw [firstOf_mon h1 h2]; exact ha, by rw [show 12 * y + m - 1 + 1 = 12 * y + m by omega, firstOf_mon_next h1 h2]; exact hb⟩
  have := dat_spec h0 h9
  omega
/-- the days of a month -/
def mdays (r : RuleV) (s y m : Int) : List Int := daysIn (good r s) (clip (dnum y m 1)) (clip (dnum y m 1 + mlen y m))
theorem mdays_late {r : RuleV} {s y m : Int} (h1 : 1 ≤ m) (h2 : m ≤ 12) (h : ¬ y ≤ 2200) : mdays r s y m = [] := by
  have := mt (mon_lt (y := y) h1 h2).1 h
  have := (mlen_le y m).1
  exact daysIn_nil (by rw [clip_over (a := dnum y m 1) (by omega), clip_over (a := dnum y m 1 + mlen y m) (by omega)]; exact Int.le_refl _)
theorem mdays_not {r : RuleV} {s y m : Int} (h1 : 1 ≤ m) (h2 : m ≤ 12) (hb : 0 < r.byMonth.length) (h : has r.byMonth m = false) : mdays r s y m = [] := by
  rw [List.eq_nil_iff_forall_not_mem]
  intro n hn
  obtain ⟨a, b, c⟩ := mem_daysIn.1 hn
  have := clip_range (dnum y m 1)
  have := clip_range (dnum y m 1 + mlen y m)
  have h0 : 0 ≤ n := by omega
  have h9 : n < 109938 := by omega
  have hd := mon_day h0 h9 h1 h2 ((clip_le h9 h0).1 a) ((lt_clip h0 h9).1 b)
  unfold good rright at c
  rw [hd.2, h] at c
  have : decide (r.byMonth.length = 0) = false := decide_eq_false (by omega)
  rw [this] at c
  simp at c
theorem mdays_length (r : RuleV) (s y m : Int) (_h1 : 1 ≤ m) (_h2 : m ≤ 12) : (mdays r s y m).length ≤ 31 := by
  have h := pairwise_lt_length (a := clip (dnum y m 1)) (b := clip (dnum y m 1 + mlen y m)) (daysIn_sorted (good r s) (clip (dnum y m 1)) (clip (dnum y m 1 + mlen y m))) (fun x hx => by have := mem_daysIn.1 hx; omega) (clip_mono (by have := (mlen_le y m).1; omega))
  have := (mlen_le y m)
  have e : clip (dnum y m 1 + mlen y m) - clip (dnum y m 1) ≤ 31 := by unfold clip; omega
  unfold mdays; omega
/-- the days of a year's months up to the k-th -/
def ydays (r : RuleV) (s y : Int) (k : Nat) : List Int := daysIn (good r s) (clip (dnum y 1 1)) (clip (firstOf (12 * y + k)))
theorem ydays_zero (r : RuleV) (s y : Int) : ydays r s y 0 = [] := by
  refine daysIn_nil ?_
  rw [show 12 * y + ((0 : Nat) : Int) = 12 * y by omega, firstOf_year]; exact Int.le_refl _
theorem ydays_succ (r : RuleV) (s y : Int) {k : Nat} (hk : k < 12) : ydays r s y (k + 1) = ydays r s y k ++ mdays r s y ((k : Int) + 1) := by
  have e1 : firstOf (12 * y + k) = dnum y ((k : Int) + 1) 1 := by
    rw [← firstOf_mon (by omega) (by omega)]; congr 1; omega
  have e2 : firstOf (12 * y + ((k + 1 : Nat) : Int)) = dnum y ((k : Int) + 1) 1 + mlen y ((k : Int) + 1) := by
    rw [← firstOf_mon_next (by omega) (by omega)]; congr 1
  have m1 := firstOf_mono (show 12 * y ≤ 12 * y + (k : Int) by omega)
  rw [firstOf_year] at m1
  have := (mlen_le y ((k : Int) + 1)).1
  unfold ydays mdays
  rw [e2, ← e1, daysIn_append (clip_mono m1) (clip_mono (by omega))]
theorem ydays_length (r : RuleV) (s y : Int) (k : Nat) (hk : k ≤ 12) : (ydays r s y k).length ≤ 31 * k := by
  induction k with
  | zero => rw [ydays_zero]; simp
  | succ k ih =>
    rw [ydays_succ r s y (by omega), List.length_append]
    have := ih (by omega)
    have := mdays_length r s y ((k : Int) + 1) (by omega) (by omega)
    omega
/- a period by its kind -/
theorem plist_daily {r : RuleV} {s p : Int} (hf : r.freq = 1) : plist r s p = daysIn (good r s) (clip (s + p)) (clip (s + p + 1)) := by
  unfold plist pfirst; simp only [hf, if_true]; rw [show s + (p + 1) = s + p + 1 by omega]
theorem plist_weekly {r : RuleV} {s p : Int} (hf : r.freq = 2) : plist r s p = daysIn (good r s) (clip (s - into r s + 7 * p)) (clip (s - into r s + 7 * p + 7)) := by
  unfold plist pfirst; simp only [hf]; simp only [show ¬ ((2 : Int) = 1) by omega, if_true, if_false]
  rw [show s - into r s + 7 * (p + 1) = s - into r s + 7 * p + 7 by omega]
theorem plist_monthly {r : RuleV} {s p : Int} (hf : r.freq = 3) : plist r s p = mdays r s ((12 * yr s + mo s - 1 + p) / 12) ((12 * yr s + mo s - 1 + p) % 12 + 1) := by
  unfold plist pfirst mdays; simp only [hf]; simp only [show ¬ ((3 : Int) = 1) by omega, show ¬ ((3 : Int) = 2) by omega, if_true, if_false]
  rw [show 12 * yr s + mo s - 1 + (p + 1) = 12 * yr s + mo s - 1 + p + 1 by omega, firstOf_next]
  rfl
theorem plist_yearly {r : RuleV} {s p : Int} (h1 : r.freq ≠ 1) (h2 : r.freq ≠ 2) (h3 : r.freq ≠ 3) : plist r s p = ydays r s (yr s + p) 12 := by
  unfold plist pfirst ydays; simp only [h1, h2, h3, if_false]
  rw [show yr s + (p + 1) = yr s + p + 1 by omega, ← firstOf_year (yr s + p + 1)]
  rw [show 12 * (yr s + p + 1) = 12 * (yr s + p) + ((12 : Nat) : Int) by omega]
def pmore (r : RuleV) (s p : Int) : Bool := decide (pfirst r s p < 109938)
theorem pmore_daily {r : RuleV} {s p : Int} (hf : r.freq = 1) : pmore r s p = decide (s + p < 109938) := by unfold pmore pfirst; simp only [hf, if_true]
theorem pmore_weekly {r : RuleV} {s p : Int} (hf : r.freq = 2) : pmore r s p = decide (s - into r s + 7 * p < 109938) := by
  unfold pmore pfirst; simp only [hf]; simp only [show ¬ ((2 : Int) = 1) by omega, if_true, if_false]
theorem pmore_monthly {r : RuleV} {s p : Int} (hf : r.freq = 3) : pmore r s p = decide ((12 * yr s + mo s - 1 + p) / 12 ≤ 2200) := by
  unfold pmore pfirst; simp only [hf]; simp only [show ¬ ((3 : Int) = 1) by omega, show ¬ ((3 : Int) = 2) by omega, if_true, if_false]
  rw [decide_eq_decide, firstOf_lt]
theorem pmore_yearly {r : RuleV} {s p : Int} (h1 : r.freq ≠ 1) (h2 : r.freq ≠ 2) (h3 : r.freq ≠ 3) : pmore r s p = decide (yr s + p ≤ 2200) := by
  unfold pmore pfirst; simp only [h1, h2, h3, if_false]
  rw [decide_eq_decide, mon_lt (by omega) (by omega)]
theorem pfirst_lo (r : RuleV) {s : Int} (hs0 : 0 ≤ s) (hs1 : s < 109938) : s - 366 ≤ pfirst r s 0 := by
  have := pfirst_zero r hs0 hs1
  have h2 := pfirst_next r s 0
  have := plong_pos r
  rw [Int.zero_add] at h2; omega
theorem pfirst_far2 (r : RuleV) {s : Int} (hs0 : 0 ≤ s) (hs1 : s < 109938) {p : Int} (hp : 0 ≤ p) (h : pfirst r s p < 109938) : p < 120000 := by
  obtain ⟨k, rfl⟩ : ∃ k : Nat, p = (k : Int) := ⟨p.toNat, by omega⟩
  have h1 := pfirst_grow r s 0 k
  have h2 := pfirst_lo r hs0 hs1
  rw [Int.zero_add] at h1; omega
theorem plist_length (r : RuleV) (s p : Int) : (plist r s p).length ≤ 366 := by
  have m := pfirst_next r s p
  have := plong_pos r
  have h := pairwise_lt_length (a := clip (pfirst r s p)) (b := clip (pfirst r s (p + 1))) (daysIn_sorted (good r s) (clip (pfirst r s p)) (clip (pfirst r s (p + 1)))) (fun x hx => by have := mem_daysIn.1 hx; omega) (clip_mono (by omega))
  have e : clip (pfirst r s (p + 1)) - clip (pfirst r s p) ≤ 366 := by unfold clip; omega
  unfold plist; omega
theorem kept_length (r : RuleV) (l : List Int) : (kept r l).length ≤ l.length := by
  unfold kept; split
  · exact Nat.le_refl _
  · unfold keptTo; rw [List.length_map]
    have := List.length_filter_le (keepAt r l.length) (List.range l.length)
    rw [List.length_range] at this; exact this
theorem keptTo_length (r : RuleV) (l : List Int) (k : Nat) : (keptTo r l k).length ≤ k := by
  unfold keptTo; rw [List.length_map]
  have := List.length_filter_le (keepAt r l.length) (List.range k)
  rw [List.length_range] at this; exact this
end Go.Proofs.YthcngkcfopaigaaGreat

namespace Go.Proofs.YthcngkcfopaigaaGreat
structure EventV where
  start : Int
  long : Int
  world : Bool
  again : Bool
  rule : RuleV
  ex : List Int
  plus : List Int
  changes : List (Int × Int × Int)
def stampB (n : Int) : Bool := decide (0 ≤ n) && decide (n < 158310720)
theorem stampB_iff (n : Int) : stampB n = true ↔ 0 ≤ n ∧ n < 158310720 := by simp [stampB]
def erowAt (l : List Int) (k : Nat) : Bool := stampB (ig l k) && rup l k
def erow (l : List Int) : Bool := upto (erowAt l) l.length && decide (l.length ≤ 50)
def cat (l : List (Int × Int × Int)) (k : Nat) : Int := (l[k]?.getD (0, 0, 0)).1
def cst (l : List (Int × Int × Int)) (k : Nat) : Int := (l[k]?.getD (0, 0, 0)).2.1
def clo (l : List (Int × Int × Int)) (k : Nat) : Int := (l[k]?.getD (0, 0, 0)).2.2
def echgAt (l : List (Int × Int × Int)) (k : Nat) : Bool := stampB (cst l k) && decide (0 ≤ clo l k) && decide (clo l k ≤ 10080)
def ats (l : List (Int × Int × Int)) : List Int := l.map (·.1)
def echg (l : List (Int × Int × Int)) : Bool := upto (echgAt l) l.length && erow (ats l)
def emay (e : EventV) : Bool :=
  stampB e.start && decide (1 ≤ e.long) && decide (e.long ≤ 10080) &&
  (if e.again then !e.world && rmay e.rule && erow e.ex && erow e.plus && echg e.changes
   else rsame e.rule RuleV.zero && decide (e.ex.length + e.plus.length + e.changes.length = 0))
def chgd (e : EventV) (x : Int) : Bool := has (ats e.changes) x
/-- is a time one of an event's, that may be? -/
def etime0 (e : EventV) (x : Int) : Bool := if e.again then !has e.ex x && (has e.plus x || decide (x ∈ allTimes e.rule e.start)) else decide (x = e.start)
def eat (e : EventV) (x : Int) : Bool := emay e && etime0 e x
/-- one of its times that is not changed? -/
def etime (e : EventV) (x : Int) : Bool := etime0 e x && !(e.again && chgd e x)
theorem ig_get {l : List Int} {k : Nat} (h : k < l.length) : ig l k ∈ l := by rw [ig_eq h]; exact List.getElem_mem h
theorem has_iff {l : List Int} {x : Int} : has l x = true ↔ x ∈ l := by
  unfold has; rw [List.any_eq_true]; constructor
  · rintro ⟨y, hy, h⟩; have : y = x := by simpa using h
    rw [← this]; exact hy
  · intro h; exact ⟨x, h, by simp⟩
theorem erow_iff {l : List Int} : erow l = true ↔ (∀ k, k < l.length → 0 ≤ ig l k ∧ ig l k < 158310720 ∧ (k = 0 ∨ ig l (k - 1) < ig l k)) ∧ l.length ≤ 50 := by
  unfold erow
  simp only [Bool.and_eq_true, decide_eq_true_eq]
  constructor
  · rintro ⟨h, h2⟩
    refine ⟨fun k hk => ?_, h2⟩
    have := upto_get h hk
    simp only [erowAt, rup, Bool.and_eq_true, Bool.or_eq_true, decide_eq_true_eq, stampB_iff] at this
    exact ⟨this.1.1, this.1.2, this.2⟩
  · rintro ⟨h, h2⟩
    refine ⟨upto_true fun k hk => ?_, h2⟩
    have := h k hk
    simp only [erowAt, rup, Bool.and_eq_true, Bool.or_eq_true, decide_eq_true_eq, stampB_iff]
    exact ⟨⟨this.1, this.2.1⟩, this.2.2⟩
theorem rising_lt {l : List Int} (h : ∀ k, k < l.length → (k = 0 ∨ ig l (k - 1) < ig l k)) : ∀ {i j : Nat}, i < j → j < l.length → ig l i < ig l j := by
  intro i j hij hj
  induction j with
  | zero => omega
  | succ j ih =>
    have h1 := h (j + 1) hj
    simp at h1
    by_cases e : i = j
    · subst e; exact h1
    · have := ih (by omega) (by omega); omega
theorem erow_sorted {l : List Int} (h : erow l = true) : l.Pairwise (· < ·) := by
  rw [List.pairwise_iff_getElem]
  intro i j hi hj hij
  have := rising_lt (fun k hk => ((erow_iff.1 h).1 k hk).2.2) hij hj
  rw [ig_eq hi, ig_eq hj] at this; exact this
theorem erow_range {l : List Int} (h : erow l = true) {x : Int} (hx : x ∈ l) : 0 ≤ x ∧ x < 158310720 := by
  obtain ⟨k, hk, rfl⟩ := List.mem_iff_getElem.1 hx
  have := (erow_iff.1 h).1 k hk
  rw [ig_eq hk] at this; exact ⟨this.1, this.2.1⟩
theorem ats_length (l : List (Int × Int × Int)) : (ats l).length = l.length := by simp [ats]
theorem ats_ig (l : List (Int × Int × Int)) (k : Nat) : ig (ats l) k = cat l k := by
  unfold ig ats cat
  rw [List.getElem?_map]
  cases l[k]? <;> rfl
theorem echg_iff {l : List (Int × Int × Int)} : echg l = true ↔ (∀ k, k < l.length → 0 ≤ cst l k ∧ cst l k < 158310720 ∧ 0 ≤ clo l k ∧ clo l k ≤ 10080 ∧ 0 ≤ cat l k ∧ cat l k < 158310720 ∧ (k = 0 ∨ cat l (k - 1) < cat l k)) ∧ l.length ≤ 50 := by
  unfold echg
  rw [Bool.and_eq_true, erow_iff, ats_length]
  simp only [ats_ig]
  constructor
  · rintro ⟨h, h1, h2⟩
    refine ⟨fun k hk => ?_, h2⟩
    have a := upto_get h hk
    have b := h1 k hk
    simp only [echgAt, Bool.and_eq_true, decide_eq_true_eq, stampB_iff] at a
    exact ⟨a.1.1.1, a.1.1.2, a.1.2, a.2, b.1, b.2.1, b.2.2⟩
  · rintro ⟨h, h2⟩
    refine ⟨upto_true fun k hk => ?_, fun k hk => ?_, h2⟩
    · have a := h k hk
      simp only [echgAt, Bool.and_eq_true, decide_eq_true_eq, stampB_iff]
      exact ⟨⟨⟨a.1, a.2.1⟩, a.2.2.1⟩, a.2.2.2.1⟩
    · have a := h k hk
      exact ⟨a.2.2.2.2.1, a.2.2.2.2.2.1, a.2.2.2.2.2.2⟩
/-- what an event that may be is -/
theorem emay_once {e : EventV} (h : emay e = true) (ha : e.again = false) : 0 ≤ e.start ∧ e.start < 158310720 ∧ 1 ≤ e.long ∧ e.long ≤ 10080 ∧ e.rule = RuleV.zero ∧ e.ex = [] ∧ e.plus = [] ∧ e.changes = [] := by
  unfold emay at h
  rw [ha] at h
  simp only [Bool.and_eq_true, decide_eq_true_eq, stampB_iff, Bool.false_eq_true, if_false, rsame_iff] at h
  obtain ⟨⟨⟨⟨h1, h2⟩, h3⟩, h4⟩, h5, h6⟩ := h
  exact ⟨h1, h2, h3, h4, h5, List.length_eq_zero_iff.1 (by omega), List.length_eq_zero_iff.1 (by omega), List.length_eq_zero_iff.1 (by omega)⟩
theorem emay_again {e : EventV} (h : emay e = true) (ha : e.again = true) : 0 ≤ e.start ∧ e.start < 158310720 ∧ 1 ≤ e.long ∧ e.long ≤ 10080 ∧ e.world = false ∧ rmay e.rule = true ∧ erow e.ex = true ∧ erow e.plus = true ∧ echg e.changes = true := by
  unfold emay at h
  rw [ha] at h
  simp only [Bool.and_eq_true, decide_eq_true_eq, stampB_iff, if_true, Bool.not_eq_true'] at h
  obtain ⟨⟨⟨⟨h1, h2⟩, h3⟩, h4⟩, ⟨⟨⟨h5, h6⟩, h7⟩, h8⟩, h9⟩ := h
  exact ⟨h1, h2, h3, h4, h5, h6, h7, h8, h9⟩
theorem emay_bd {e : EventV} (h : emay e = true) : 0 ≤ e.start ∧ e.start < 158310720 ∧ 1 ≤ e.long ∧ e.long ≤ 10080 := by
  cases ha : e.again with
  | false => have := emay_once h ha; omega
  | true => have := emay_again h ha; omega
theorem etime0_range {e : EventV} (h : emay e = true) {x : Int} (hx : etime0 e x = true) : 0 ≤ x ∧ x < 158310720 := by
  unfold etime0 at hx
  cases ha : e.again with
  | false =>
    rw [ha] at hx
    have := emay_bd h
    simp at hx; omega
  | true =>
    rw [ha] at hx
    have := emay_again h ha
    simp only [if_true, Bool.and_eq_true, Bool.or_eq_true, decide_eq_true_eq, has_iff] at hx
    rcases hx.2 with h1 | h1
    · exact erow_range this.2.2.2.2.2.2.2.1 h1
    · have := allTimes_mem h1; omega
end Go.Proofs.YthcngkcfopaigaaGreat
