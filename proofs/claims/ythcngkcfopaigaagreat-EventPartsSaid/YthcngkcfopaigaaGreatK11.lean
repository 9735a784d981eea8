/- Plain words on recurrence: how the times are handed out one by one. No program in sight. -/
import Derived.Test.YthcngkcfopaigaaGreatK2
namespace Go.Proofs.YthcngkcfopaigaaGreat
theorem cut_prefix {r : RuleV} {l m : List Int} (h : alive r l) : l <+: cut r (l ++ m) := by
  unfold cut; split
  · rename_i ht
    rw [List.filter_append]
    have e1 : l.filter (fun x => decide (x ≤ r.till)) = l := by
      rw [List.filter_eq_self]; intro x hx; simpa using h.1 ht x hx
    rw [e1]; exact List.prefix_append _ _
  · split
    · rename_i hc
      have := h.2 hc
      rw [List.take_append, List.take_of_length_le (by omega)]
      exact List.prefix_append _ _
    · exact List.prefix_append _ _
/-- all that would come, if nothing were cut -/
def whole (r : RuleV) (s mi k0 : Int) : List Int := tms mi (occ r s (clip (pfirst r s (k0 * r.interval))) 109938)
theorem hand_whole (r : RuleV) (s mi k0 : Int) : hand r s mi k0 = cut r (whole r s mi k0) := rfl
theorem whole_sorted (r : RuleV) (s mi k0 : Int) : (whole r s mi k0).Pairwise (· < ·) := tms_sorted (daysIn_sorted _ _ _)
/-- what has come when so many days of a period are over -/
def come (r : RuleV) (s mi k0 k : Int) (i : Nat) : List Int := tms mi (seen r s k0 k ++ ((kept r (plist r s (k * r.interval))).take i).filter (fun n => decide (s ≤ n)))
theorem come_zero (r : RuleV) (s mi k0 k : Int) : come r s mi k0 k 0 = tms mi (seen r s k0 k) := by simp [come]
theorem come_all {r : RuleV} {s mi k0 k : Int} (hs0 : 0 ≤ s) (hs1 : s < 109938) (hi : 1 ≤ r.interval) (hk : k0 ≤ k) :
    come r s mi k0 k (kept r (plist r s (k * r.interval))).length = tms mi (seen r s k0 (k + 1)) := by
  unfold come; rw [List.take_length, seen_next hs0 hs1 hi hk]
theorem take_snoc {l : List Int} {i : Nat} (h : i < l.length) : l.take (i + 1) = l.take i ++ [ig l i] := by
  rw [List.take_succ_eq_append_getElem h, ig_eq h]
theorem come_skip {r : RuleV} {s mi k0 k : Int} {i : Nat} (h : i < (kept r (plist r s (k * r.interval))).length) (hn : ig (kept r (plist r s (k * r.interval))) i < s) :
    come r s mi k0 k (i + 1) = come r s mi k0 k i := by
  unfold come; rw [take_snoc h, List.filter_append]
  have : ([ig (kept r (plist r s (k * r.interval))) i].filter (fun n => decide (s ≤ n))) = [] := by simp; omega
  rw [this, List.append_nil]
theorem come_next {r : RuleV} {s mi k0 k : Int} {i : Nat} (h : i < (kept r (plist r s (k * r.interval))).length) (hn : s ≤ ig (kept r (plist r s (k * r.interval))) i) :
    come r s mi k0 k (i + 1) = come r s mi k0 k i ++ [ig (kept r (plist r s (k * r.interval))) i * 1440 + mi] := by
  unfold come; rw [take_snoc h, List.filter_append]
  have : ([ig (kept r (plist r s (k * r.interval))) i].filter (fun n => decide (s ≤ n))) = [ig (kept r (plist r s (k * r.interval))) i] := by simp; omega
  rw [this, ← List.append_assoc, tms_append]; rfl
theorem seen_prefix (r : RuleV) (s : Int) {j k : Int} (hi : 1 ≤ r.interval) (hk : j ≤ k) : seen r s j k <+: occ r s (clip (pfirst r s (j * r.interval))) 109938 := by
  have h1 : j * r.interval ≤ k * r.interval := Int.mul_le_mul_of_nonneg_right hk (by omega)
  unfold seen occ
  rw [← daysIn_append (f := sel r s) (clip_mono (pfirst_mono r s h1)) (clip_range (pfirst r s (k * r.interval))).2]
  exact List.prefix_append _ _
theorem come_prefix {r : RuleV} {s mi k0 k : Int} (hs0 : 0 ≤ s) (hs1 : s < 109938) (hi : 1 ≤ r.interval) (hk : k0 ≤ k) (i : Nat) : come r s mi k0 k i <+: whole r s mi k0 := by
  unfold come whole tms
  apply List.IsPrefix.map
  refine List.IsPrefix.trans ?_ (seen_prefix r s hi (show k0 ≤ k + 1 by omega))
  rw [seen_next hs0 hs1 hi hk]
  exact (List.prefix_append_right_inj _).2 (List.IsPrefix.filter _ (List.take_prefix _ _))
theorem hand_till {r : RuleV} {s mi k0 x : Int} {pre : List Int} (hp : pre ++ [x] <+: whole r s mi k0) (ha : alive r pre) (ht : 0 ≤ r.till) (hx : r.till < x) : hand r s mi k0 = pre := by
  obtain ⟨m, hm⟩ := hp
  have hs := whole_sorted r s mi k0
  rw [hand_whole, ← hm, List.append_assoc]
  rw [← hm, List.append_assoc, List.pairwise_append] at hs
  refine cut_till ha ht ?_
  intro y hy
  simp only [List.singleton_append, List.mem_cons] at hy
  rcases hy with rfl | hy
  · exact hx
  · have h2 := hs.2.1
    rw [List.singleton_append, List.pairwise_cons] at h2
    have := h2.1 y hy; omega
theorem hand_count {r : RuleV} {s mi k0 x : Int} {pre : List Int} (hp : pre ++ [x] <+: whole r s mi k0) (ht : ¬ 0 ≤ r.till) (hc : 0 < r.count) (hl : (pre.length : Int) = r.count) : hand r s mi k0 = pre := by
  obtain ⟨m, hm⟩ := hp
  rw [hand_whole, ← hm, List.append_assoc]
  exact cut_count ht hc hl
theorem hand_next {r : RuleV} {s mi k0 x : Int} {pre : List Int} (hp : pre ++ [x] <+: whole r s mi k0) (ha : alive r (pre ++ [x])) : pre ++ [x] <+: hand r s mi k0 := by
  obtain ⟨m, hm⟩ := hp
  rw [hand_whole, ← hm]
  exact cut_prefix ha
theorem hand_done {r : RuleV} {s mi k0 k : Int} (ha : alive r (tms mi (seen r s k0 k))) (h : 109938 ≤ pfirst r s (k * r.interval)) : hand r s mi k0 = tms mi (seen r s k0 k) := by
  rw [seen_all h] at ha ⊢
  exact cut_alive ha
theorem prefix_lt {l m : List Int} {x : Int} (h : l ++ [x] <+: m) : l.length < m.length := by
  have := h.length_le; simp at this; omega
theorem whole_length (r : RuleV) (s mi k0 : Int) : (whole r s mi k0).length ≤ 109938 := by
  have hc := clip_range (pfirst r s (k0 * r.interval))
  have h := pairwise_lt_length (a := clip (pfirst r s (k0 * r.interval))) (b := 109938) (daysIn_sorted (sel r s) (clip (pfirst r s (k0 * r.interval))) 109938) (fun x hx => by have := mem_daysIn.1 hx; omega) (by omega)
  unfold whole tms occ; rw [List.length_map]; omega
theorem kept_mem {r : RuleV} {s p : Int} (hs0 : 0 ≤ s) (hs1 : s < 109938) {i : Nat} (h : i < (kept r (plist r s p)).length) : 0 ≤ ig (kept r (plist r s p)) i ∧ ig (kept r (plist r s p)) i < 109938 := by
  rw [ig_eq h]
  have := (mem_plist hs0 hs1).1 (kept_sub (List.getElem_mem h))
  exact ⟨this.1, this.2.1⟩
end Go.Proofs.YthcngkcfopaigaaGreat
