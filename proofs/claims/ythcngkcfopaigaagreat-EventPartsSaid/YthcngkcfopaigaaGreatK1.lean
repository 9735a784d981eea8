/- Plain facts about zones: turns, what is added, of which minute a local time comes. No program in sight.
Plain words on rules. No program in sight.
Plain facts about the calendar: leap years, lengths of months, numbers of dates. No program in sight.
Plain words on recurrence: the days of a rule. No program in sight. -/
namespace Go.Proofs.YthcngkcfopaigaaGreat
/-- a test holds at all places below n -/
def upto (f : Nat → Bool) (n : Nat) : Bool := (List.range n).all f
theorem upto_true {f : Nat → Bool} {n : Nat} (h : ∀ k, k < n → f k = true) : upto f n = true := by simp [upto]; exact h
theorem upto_false {f : Nat → Bool} {n k : Nat} (hk : k < n) (h : f k = false) : upto f n = false := by
  simp only [upto, List.all_eq_false, List.mem_range]
  exact ⟨k, hk, by simp [h]⟩
theorem upto_get {f : Nat → Bool} {n : Nat} (h : upto f n = true) {k : Nat} (hk : k < n) : f k = true := by
  simp only [upto, List.all_eq_true, List.mem_range] at h; exact h k hk
def ta (ts : List (Int × Int)) (i : Nat) : Int := (ts[i]?.getD (0, 0)).1
def tof (ts : List (Int × Int)) (i : Nat) : Int := (ts[i]?.getD (0, 0)).2
def wideB (n : Int) : Bool := decide (n < -900) || decide (900 < n)
/-- one turn is right, behind the one ahead -/
def tok (ts : List (Int × Int)) (i : Nat) : Bool :=
  !wideB (tof ts i) && decide (0 ≤ ta ts i) && decide (ta ts i ≤ 158310720) && (decide (i = 0) || decide (2880 ≤ ta ts i - ta ts (i - 1)))
def zmay (base : Int) (ts : List (Int × Int)) : Bool := !wideB base && decide (ts.length ≤ 700) && upto (tok ts) ts.length
theorem wideB_false {n : Int} : wideB n = false ↔ -900 ≤ n ∧ n ≤ 900 := by simp only [wideB, Bool.or_eq_false_iff, decide_eq_false_iff_not]; omega
theorem tok_iff {ts : List (Int × Int)} {i : Nat} : tok ts i = true ↔ (-900 ≤ tof ts i ∧ tof ts i ≤ 900) ∧ 0 ≤ ta ts i ∧ ta ts i ≤ 158310720 ∧ (i = 0 ∨ 2880 ≤ ta ts i - ta ts (i - 1)) := by
  simp only [tok, Bool.and_eq_true, Bool.or_eq_true, decide_eq_true_eq, Bool.not_eq_true', wideB_false, and_assoc]
/-- what is known of a zone that may be -/
structure ZOk (base : Int) (ts : List (Int × Int)) : Prop where
  b1 : -900 ≤ base
  b2 : base ≤ 900
  len : ts.length ≤ 700
  t : ∀ i, i < ts.length → tok ts i = true
theorem zmay_iff {base : Int} {ts : List (Int × Int)} : zmay base ts = true ↔ ZOk base ts := by
  simp only [zmay, Bool.and_eq_true, Bool.not_eq_true', wideB_false, decide_eq_true_eq]
  exact ⟨fun ⟨⟨⟨a, b⟩, c⟩, d⟩ => ⟨a, b, c, fun i hi => upto_get d hi⟩, fun ⟨a, b, c, d⟩ => ⟨⟨⟨a, b⟩, c⟩, upto_true d⟩⟩
theorem ZOk.gap {base : Int} {ts : List (Int × Int)} (h : ZOk base ts) {i j : Nat} (hij : i < j) (hj : j < ts.length) : ta ts i + 2880 ≤ ta ts j := by
  induction j with
  | zero => omega
  | succ j ih =>
    have hs := (tok_iff.1 (h.t (j + 1) hj)).2.2.2
    simp at hs
    by_cases e : i = j
    · subst e; omega
    · have := ih (by omega) (by omega); omega
/-- how many turns aren't behind a minute -/
def nb (ts : List (Int × Int)) (u : Int) : Nat := (ts.takeWhile (fun t => decide (t.1 ≤ u))).length
theorem nb_le (ts : List (Int × Int)) (u : Int) : nb ts u ≤ ts.length := by unfold nb; exact (List.takeWhile_sublist _).length_le
theorem ta_cons (t : Int × Int) (ts : List (Int × Int)) (i : Nat) : ta (t :: ts) (i + 1) = ta ts i := by simp [ta]
theorem nb_below (ts : List (Int × Int)) (u : Int) : ∀ i, i < nb ts u → ta ts i ≤ u := by
  induction ts with
  | nil => intro i h; simp [nb] at h
  | cons t ts ih =>
    intro i h
    by_cases ht : t.1 ≤ u
    · cases i with
      | zero => simpa [ta] using ht
      | succ i =>
        rw [ta_cons]; apply ih
        simp [nb, ht] at h ⊢; omega
    · simp [nb, ht] at h
theorem nb_at (ts : List (Int × Int)) (u : Int) (h : nb ts u < ts.length) : u < ta ts (nb ts u) := by
  induction ts with
  | nil => simp at h
  | cons t ts ih =>
    by_cases ht : t.1 ≤ u
    · have e : nb (t :: ts) u = nb ts u + 1 := by simp [nb, ht]
      rw [e] at h ⊢; rw [ta_cons]; apply ih; simpa using h
    · have e : nb (t :: ts) u = 0 := by simp [nb, ht]
      rw [e]; simp [ta]; omega
theorem nb_unique {ts : List (Int × Int)} {u : Int} {k : Nat} (hk : k ≤ ts.length) (h1 : ∀ i, i < k → ta ts i ≤ u) (h2 : k < ts.length → u < ta ts k) : nb ts u = k := by
  have a := nb_le ts u
  rcases Nat.lt_trichotomy (nb ts u) k with h | h | h
  · have := nb_at ts u (by omega); have := h1 _ h; omega
  · exact h
  · have := nb_below ts u k h; have := h2 (by omega); omega
theorem ZOk.nb_gt {base : Int} {ts : List (Int × Int)} (h : ZOk base ts) {u : Int} {i : Nat} (hi : i < ts.length) : i < nb ts u ↔ ta ts i ≤ u := by
  constructor
  · exact nb_below ts u i
  · intro hle
    refine Nat.lt_of_not_le fun hc => ?_
    have hat := nb_at ts u (by omega)
    by_cases e : nb ts u = i
    · rw [e] at hat; omega
    · have := h.gap (i := nb ts u) (j := i) (by omega) hi; omega
theorem ZOk.nb_mono {base : Int} {ts : List (Int × Int)} (_h : ZOk base ts) {u v : Int} (huv : u ≤ v) : nb ts u ≤ nb ts v := by
  refine Nat.le_of_not_lt fun hc => ?_
  have h1 := nb_below ts u _ hc
  have h2 := nb_at ts v (by have := nb_le ts u; omega)
  omega
/-- what is added behind so many turns -/
def added (base : Int) (ts : List (Int × Int)) (n : Nat) : Int := if n = 0 then base else tof ts (n - 1)
def zoff (base : Int) (ts : List (Int × Int)) (u : Int) : Int := added base ts (nb ts u)
theorem ZOk.added {base : Int} {ts : List (Int × Int)} (h : ZOk base ts) {n : Nat} (hn : n ≤ ts.length) : -900 ≤ added base ts n ∧ added base ts n ≤ 900 := by
  unfold Proofs.YthcngkcfopaigaaGreat.added
  split
  · exact ⟨h.b1, h.b2⟩
  · exact (tok_iff.1 (h.t (n - 1) (by omega))).1
/-- the minute that a local time comes of in the part of the time behind n turns, if it lies there -/
def zin (base : Int) (ts : List (Int × Int)) (local_ : Int) (n : Nat) : Bool := decide (nb ts (local_ - added base ts n) = n)
/-- a local time over which the clock jumps at turn i -/
def zgap (base : Int) (ts : List (Int × Int)) (local_ : Int) (i : Nat) : Bool := decide (ta ts i + added base ts i ≤ local_) && decide (local_ < ta ts i + added base ts (i + 1))
def utcRaw (base : Int) (ts : List (Int × Int)) (local_ : Int) : Int :=
  match (List.range (ts.length + 1)).find? (zin base ts local_) with
  | some n => local_ - added base ts n
  | none => match (List.range ts.length).find? (zgap base ts local_) with
    | some i => local_ - added base ts i
    | none => 0
theorem find_range {f : Nat → Bool} {n k : Nat} (hk : k < n) (h1 : f k = true) (h2 : ∀ j, j < k → f j = false) : (List.range n).find? f = some k := by
  rw [List.find?_eq_some_iff_getElem]
  refine ⟨h1, k, by simpa using hk, by simp, fun j hj => by simp [h2 j hj]⟩
theorem find_none {f : Nat → Bool} {n : Nat} (h : ∀ j, j < n → f j = false) : (List.range n).find? f = none := by
  simp; exact h
theorem raw_in {base : Int} {ts : List (Int × Int)} {l : Int} {n : Nat} (hn : n ≤ ts.length) (h1 : zin base ts l n = true) (h2 : ∀ j, j < n → zin base ts l j = false) : utcRaw base ts l = l - Proofs.YthcngkcfopaigaaGreat.added base ts n := by
  unfold utcRaw; rw [find_range (by omega) h1 h2]
theorem ZOk.near {base : Int} {ts : List (Int × Int)} (h : ZOk base ts) {l : Int} {n : Nat} (hn : n ≤ ts.length) (h1 : zin base ts l n = true) : nb ts (l - 901) ≤ n ∧ n ≤ nb ts (l + 901) := by
  have ha := h.added hn
  simp only [zin, decide_eq_true_eq] at h1
  rw [← h1]
  exact ⟨h.nb_mono (by omega), h.nb_mono (by omega)⟩
theorem ZOk.gap_near {base : Int} {ts : List (Int × Int)} (h : ZOk base ts) {l : Int} {i : Nat} (hi : i < ts.length) (h1 : zgap base ts l i = true) : nb ts (l - 901) ≤ i ∧ i < nb ts (l + 901) := by
  simp only [zgap, Bool.and_eq_true, decide_eq_true_eq] at h1
  have a1 := h.added (n := i) (by omega)
  have a2 := h.added (n := i + 1) (by omega)
  refine ⟨Nat.le_of_not_lt fun hc => ?_, (h.nb_gt hi).2 (by omega)⟩
  have := (h.nb_gt hi).1 hc
  omega
theorem ZOk.gap_one {base : Int} {ts : List (Int × Int)} (h : ZOk base ts) {l : Int} {i j : Nat} (hi : i < ts.length) (hj : j < ts.length) (h1 : zgap base ts l i = true) (h2 : zgap base ts l j = true) : i = j := by
  simp only [zgap, Bool.and_eq_true, decide_eq_true_eq] at h1 h2
  have a1 := h.added (n := i) (by omega)
  have a2 := h.added (n := i + 1) (by omega)
  have a3 := h.added (n := j) (by omega)
  have a4 := h.added (n := j + 1) (by omega)
  rcases Nat.lt_trichotomy i j with hlt | heq | hlt
  · have := h.gap hlt hj; omega
  · exact heq
  · have := h.gap hlt hi; omega
/-- the two tests that the program makes at a turn say just that the clock jumps over the local time there -/
theorem ZOk.gap_test {base : Int} {ts : List (Int × Int)} (h : ZOk base ts) {l : Int} {i : Nat} (hi : i < ts.length) : zgap base ts l i = (decide (i < nb ts (l - Proofs.YthcngkcfopaigaaGreat.added base ts i)) && decide (nb ts (l - Proofs.YthcngkcfopaigaaGreat.added base ts (i + 1)) ≤ i)) := by
  have e1 := h.nb_gt hi (u := l - Proofs.YthcngkcfopaigaaGreat.added base ts i)
  have e2 := h.nb_gt hi (u := l - Proofs.YthcngkcfopaigaaGreat.added base ts (i + 1))
  rw [Bool.eq_iff_iff]
  simp only [zgap, Bool.and_eq_true, decide_eq_true_eq]
  constructor
  · rintro ⟨a, b⟩
    refine ⟨e1.2 (by omega), Nat.le_of_not_lt fun hc => ?_⟩
    have := e2.1 hc; omega
  · rintro ⟨a, b⟩
    have := e1.1 a
    refine ⟨by omega, ?_⟩
    refine Int.lt_of_not_ge fun hc => ?_
    have := e2.2 (by omega)
    omega
theorem ZOk.gap_some {base : Int} {ts : List (Int × Int)} (h : ZOk base ts) {l : Int} (hno : ∀ n, n ≤ ts.length → zin base ts l n = false) : ∃ i, i < ts.length ∧ zgap base ts l i = true := by
  refine Decidable.byContradiction fun hc => ?_
  have hc' : ∀ i, i < ts.length → zgap base ts l i = false := fun i hi => by
    cases e : zgap base ts l i with
    | false => rfl
    | true => exact absurd ⟨i, hi, e⟩ hc
  -- from any part on the minute lies behind the turn at its end: so it would lie behind all of them
  have key : ∀ n, n ≤ ts.length → n < nb ts (l - Proofs.YthcngkcfopaigaaGreat.added base ts n) := by
    intro n
    induction n with
    | zero =>
      intro hn
      have := hno 0 hn
      simp only [zin, decide_eq_false_iff_not] at this
      omega
    | succ n ih =>
      intro hn
      have h1 := ih (by omega)
      have h2 := hc' n (by omega)
      rw [h.gap_test (by omega)] at h2
      have h3 := hno (n + 1) hn
      simp only [zin, decide_eq_false_iff_not] at h3
      simp only [Bool.and_eq_false_iff, decide_eq_false_iff_not] at h2
      omega
  have := key ts.length (Nat.le_refl _)
  have := nb_le ts (l - Proofs.YthcngkcfopaigaaGreat.added base ts ts.length)
  omega
theorem ZOk.raw_gap {base : Int} {ts : List (Int × Int)} (h : ZOk base ts) {l : Int} {i : Nat} (hno : ∀ n, n ≤ ts.length → zin base ts l n = false) (hi : i < ts.length) (h1 : zgap base ts l i = true) : utcRaw base ts l = l - Proofs.YthcngkcfopaigaaGreat.added base ts i := by
  unfold utcRaw
  rw [find_none (fun j hj => hno j (by omega))]
  simp only
  rw [find_range hi h1 (fun j hj => by
    cases e : zgap base ts l j with
    | false => rfl
    | true => exact absurd (h.gap_one (by omega) hi e h1) (by omega))]
def utcOk (base : Int) (ts : List (Int × Int)) (l : Int) : Bool := zmay base ts && decide (-900 ≤ l) && decide (l ≤ 158311620) && decide (0 ≤ utcRaw base ts l) && decide (utcRaw base ts l ≤ 158310720)
/-- the minute of the world's time of a local time; none: there is none -/
def zutc (base : Int) (ts : List (Int × Int)) (l : Int) : Option Int := if utcOk base ts l then some (utcRaw base ts l) else none
theorem ZOk.raw_near {base : Int} {ts : List (Int × Int)} (h : ZOk base ts) (l : Int) : l - 900 ≤ utcRaw base ts l ∧ utcRaw base ts l ≤ l + 900 := by
  by_cases hn : ∃ n, n ≤ ts.length ∧ zin base ts l n = true
  · have : ∃ n, n ≤ ts.length ∧ zin base ts l n = true ∧ ∀ j, j < n → zin base ts l j = false := by
      obtain ⟨n, hn1, hn2⟩ := hn
      induction n using Nat.strongRecOn with
      | _ n ih =>
        by_cases hex : ∃ j, j < n ∧ zin base ts l j = true
        · obtain ⟨j, hj, hz⟩ := hex; exact ih j hj (by omega) hz
        · exact ⟨n, hn1, hn2, fun j hj => by
            cases e : zin base ts l j with
            | false => rfl
            | true => exact absurd ⟨j, hj, e⟩ hex⟩
    obtain ⟨n, h1, h2, h3⟩ := this
    rw [raw_in h1 h2 h3]
    have := h.added h1; omega
  · have hno : ∀ n, n ≤ ts.length → zin base ts l n = false := fun n hle => by
      cases e : zin base ts l n with
      | false => rfl
      | true => exact absurd ⟨n, hle, e⟩ hn
    obtain ⟨i, hi, hg⟩ := h.gap_some hno
    rw [h.raw_gap hno hi hg]
    have := h.added (n := i) (by omega); omega
end Go.Proofs.YthcngkcfopaigaaGreat

namespace Go.Proofs.YthcngkcfopaigaaGreat
structure RuleV where
  freq : Int
  interval : Int
  count : Int
  till : Int
  byMonth : List Int
  byMonthDay : List Int
  byDay : List (Int × Int)
  bySetPos : List Int
  start : Int
def RuleV.zero : RuleV := ⟨0, 0, 0, 0, [], [], [], [], 0⟩
def rends (r : RuleV) : Bool := decide (0 ≤ r.count) && decide (r.count ≤ 5000) && (decide (r.till = -1) || (decide (0 ≤ r.till) && decide (r.till < 158310720) && decide (r.count = 0)))
def ig (l : List Int) (k : Nat) : Int := l[k]?.getD 0
/-- one number of a row is right by itself -/
def rin (l : List Int) (most : Int) (below : Bool) (k : Nat) : Bool := decide (ig l k ≠ 0) && decide (ig l k ≤ most) && decide (-most ≤ ig l k) && (below || decide (0 ≤ ig l k))
def rup (l : List Int) (k : Nat) : Bool := decide (k = 0) || decide (ig l (k - 1) < ig l k)
def rrow (l : List Int) (most : Int) (below : Bool) : Bool := upto (fun k => rin l most below k && rup l k) l.length
def dn (l : List (Int × Int)) (k : Nat) : Int := (l[k]?.getD (0, 0)).1
def dd (l : List (Int × Int)) (k : Nat) : Int := (l[k]?.getD (0, 0)).2
def rnth (r : RuleV) : Bool := decide (r.freq = 3) || (decide (r.freq = 4) && decide (0 < r.byMonth.length))
def din (r : RuleV) (k : Nat) : Bool := decide (0 ≤ dd r.byDay k) && decide (dd r.byDay k ≤ 6) && decide (-5 ≤ dn r.byDay k) && decide (dn r.byDay k ≤ 5) && (decide (dn r.byDay k = 0) || rnth r)
def dless (l : List (Int × Int)) (i j : Nat) : Bool := decide (dn l i < dn l j) || (decide (dn l i = dn l j) && decide (dd l i < dd l j))
def dup (l : List (Int × Int)) (k : Nat) : Bool := decide (k = 0) || dless l (k - 1) k
def rdays (r : RuleV) : Bool := upto (fun k => din r k && dup r.byDay k) r.byDay.length
def rmay (r : RuleV) : Bool :=
  decide (1 ≤ r.freq) && decide (r.freq ≤ 4) && decide (1 ≤ r.interval) && decide (r.interval ≤ 999) && rends r &&
  rrow r.byMonth 12 false && rrow r.byMonthDay 31 true && (decide (r.freq ≠ 2) || decide (r.byMonthDay.length = 0)) &&
  rdays r && rrow r.bySetPos 366 true && (decide (0 < r.byMonth.length + r.byMonthDay.length + r.byDay.length) || decide (r.bySetPos.length = 0)) &&
  decide (0 ≤ r.start) && decide (r.start ≤ 6)
def rsame (a b : RuleV) : Bool :=
  decide (a.freq = b.freq) && decide (a.interval = b.interval) && decide (a.count = b.count) && decide (a.till = b.till) && decide (a.start = b.start) &&
  decide (a.byMonth = b.byMonth) && decide (a.byMonthDay = b.byMonthDay) && decide (a.byDay = b.byDay) && decide (a.bySetPos = b.bySetPos)
theorem rsame_iff (a b : RuleV) : rsame a b = true ↔ a = b := by
  cases a; cases b; simp [rsame]; constructor
  · rintro ⟨⟨⟨⟨⟨⟨⟨⟨h1, h2⟩, h3⟩, h4⟩, h5⟩, h6⟩, h7⟩, h8⟩, h9⟩; exact ⟨h1, h2, h3, h4, h6, h7, h8, h9, h5⟩
  · rintro ⟨h1, h2, h3, h4, h6, h7, h8, h9, h5⟩; exact ⟨⟨⟨⟨⟨⟨⟨⟨h1, h2⟩, h3⟩, h4⟩, h5⟩, h6⟩, h7⟩, h8⟩, h9⟩
theorem rrow_split (l : List Int) (most : Int) (below : Bool) : rrow l most below = (upto (rin l most below) l.length && upto (rup l) l.length) := by
  rw [Bool.eq_iff_iff]
  simp only [rrow, upto, Bool.and_eq_true, List.all_eq_true, List.mem_range]
  exact ⟨fun h => ⟨fun k hk => (h k hk).1, fun k hk => (h k hk).2⟩, fun h k hk => ⟨h.1 k hk, h.2 k hk⟩⟩
theorem rdays_split (r : RuleV) : rdays r = (upto (din r) r.byDay.length && upto (dup r.byDay) r.byDay.length) := by
  rw [Bool.eq_iff_iff]
  simp only [rdays, upto, Bool.and_eq_true, List.all_eq_true, List.mem_range]
  exact ⟨fun h => ⟨fun k hk => (h k hk).1, fun k hk => (h k hk).2⟩, fun h k hk => ⟨h.1 k hk, h.2 k hk⟩⟩
theorem list_ext_ig {l m : List Int} (h : l.length = m.length) (hk : ∀ k, k < l.length → ig l k = ig m k) : l = m := by
  apply List.ext_getElem h
  intro k h1 h2
  have := hk k h1
  simpa [ig, h1, h2] using this
theorem list_ext_dn {l m : List (Int × Int)} (h : l.length = m.length) (hk : ∀ k, k < l.length → dn l k = dn m k ∧ dd l k = dd m k) : l = m := by
  apply List.ext_getElem h
  intro k h1 h2
  have := hk k h1
  simp [dn, dd, h1, h2] at this
  exact Prod.ext this.1 this.2
end Go.Proofs.YthcngkcfopaigaaGreat

namespace Go.Proofs.YthcngkcfopaigaaGreat
def leap (y : Int) : Bool := (decide (y % 4 = 0) && decide (y % 100 ≠ 0)) || decide (y % 400 = 0)
def mlen (y m : Int) : Int :=
  if m = 2 then (if leap y then 29 else 28) else if m = 4 ∨ m = 6 ∨ m = 9 ∨ m = 11 then 30
  else if m = 1 ∨ m = 3 ∨ m = 5 ∨ m = 7 ∨ m = 8 ∨ m = 10 ∨ m = 12 then 31 else 0
def dmay (y m d : Int) : Bool := decide (1900 ≤ y) && decide (y ≤ 2200) && decide (1 ≤ d) && decide (d ≤ mlen y m)
/-- days ahead of a year that begins in March -/
def era (y : Int) : Int := 365 * y + y / 4 - y / 100 + y / 400
def march (m : Int) : Int := (153 * m + 2) / 5
def dnum (y m d : Int) : Int := (if m < 3 then era (y - 1) + march (m + 9) else era y + march (m - 3)) + d - 1 - 693901

theorem mlen_le (y m : Int) : 0 ≤ mlen y m ∧ mlen y m ≤ 31 := by unfold mlen; repeat' split <;> omega
theorem mlen_out (y m : Int) (h : ¬ (1 ≤ m ∧ m ≤ 12)) : mlen y m = 0 := by
  unfold mlen; rw [if_neg (by omega), if_neg (by omega), if_neg (by omega)]
theorem mlen_in (y m : Int) (h : 1 ≤ m) (h2 : m ≤ 12) : 28 ≤ mlen y m := by
  unfold mlen; repeat' split <;> omega
theorem dmay_iff (y m d : Int) : dmay y m d = true ↔ 1900 ≤ y ∧ y ≤ 2200 ∧ 1 ≤ m ∧ m ≤ 12 ∧ 1 ≤ d ∧ d ≤ mlen y m := by
  simp only [dmay, Bool.and_eq_true, decide_eq_true_eq]
  constructor
  · rintro ⟨⟨⟨h1, h2⟩, h3⟩, h4⟩
    have : 1 ≤ m ∧ m ≤ 12 := by
      refine Decidable.byContradiction fun h => ?_
      have := mlen_out y m h; omega
    omega
  · rintro ⟨h1, h2, h3, h4, h5, h6⟩; exact ⟨⟨⟨h1, h2⟩, h5⟩, h6⟩
theorem leap_iff (y : Int) : leap y = true ↔ (y % 4 = 0 ∧ y % 100 ≠ 0) ∨ y % 400 = 0 := by simp [leap]
theorem mlen2 (y : Int) : mlen y 2 = if leap y then 29 else 28 := by simp [mlen]
/-- the number of the day behind a month's last one is that of the next month's first one -/
theorem dnum_next_month (y m : Int) (h1 : 1 ≤ m) (h2 : m ≤ 11) : dnum y (m + 1) 1 = dnum y m 1 + mlen y m := by
  have hm : m = 1 ∨ m = 2 ∨ m = 3 ∨ m = 4 ∨ m = 5 ∨ m = 6 ∨ m = 7 ∨ m = 8 ∨ m = 9 ∨ m = 10 ∨ m = 11 := by omega
  have hl := leap_iff y
  have hl2 : leap y = true ∨ leap y = false := by cases leap y <;> simp
  rcases hm with rfl | rfl | rfl | rfl | rfl | rfl | rfl | rfl | rfl | rfl | rfl <;>
    simp only [dnum, march, era, mlen] <;> (rcases hl2 with h | h <;> simp [h] at hl ⊢ <;> omega)
theorem dnum_next_year (y : Int) : dnum (y + 1) 1 1 = dnum y 12 1 + 31 := by
  simp only [dnum, march, era]; simp; omega
theorem dnum_day (y m d : Int) : dnum y m d = dnum y m 1 + d - 1 := by simp only [dnum]; omega
theorem dnum_first : dnum 1900 1 1 = 0 := by decide
theorem dnum_last : dnum 2201 1 1 = 109938 := by decide
theorem dnum_month_le (y m : Int) (h1 : 1 ≤ m) (h2 : m ≤ 12) : dnum y 1 1 ≤ dnum y m 1 ∧ dnum y m 1 + mlen y m ≤ dnum (y + 1) 1 1 := by
  have h12 := dnum_next_year y
  have e1 := dnum_next_month y 1 (by omega) (by omega)
  have e2 := dnum_next_month y 2 (by omega) (by omega)
  have e3 := dnum_next_month y 3 (by omega) (by omega)
  have e4 := dnum_next_month y 4 (by omega) (by omega)
  have e5 := dnum_next_month y 5 (by omega) (by omega)
  have e6 := dnum_next_month y 6 (by omega) (by omega)
  have e7 := dnum_next_month y 7 (by omega) (by omega)
  have e8 := dnum_next_month y 8 (by omega) (by omega)
  have e9 := dnum_next_month y 9 (by omega) (by omega)
  have e10 := dnum_next_month y 10 (by omega) (by omega)
  have e11 := dnum_next_month y 11 (by omega) (by omega)
  have l : mlen y 12 = 31 := by simp [mlen]
  have g1 := mlen_in y 1 (by omega) (by omega)
  have g2 := mlen_in y 2 (by omega) (by omega)
  have g3 := mlen_in y 3 (by omega) (by omega)
  have g4 := mlen_in y 4 (by omega) (by omega)
  have g5 := mlen_in y 5 (by omega) (by omega)
  have g6 := mlen_in y 6 (by omega) (by omega)
  have g7 := mlen_in y 7 (by omega) (by omega)
  have g8 := mlen_in y 8 (by omega) (by omega)
  have g9 := mlen_in y 9 (by omega) (by omega)
  have g10 := mlen_in y 10 (by omega) (by omega)
  have g11 := mlen_in y 11 (by omega) (by omega)
  have hm : m = 1 ∨ m = 2 ∨ m = 3 ∨ m = 4 ∨ m = 5 ∨ m = 6 ∨ m = 7 ∨ m = 8 ∨ m = 9 ∨ m = 10 ∨ m = 11 ∨ m = 12 := by omega
  simp at e1 e2 e3 e4 e5 e6 e7 e8 e9 e10 e11
  rcases hm with rfl | rfl | rfl | rfl | rfl | rfl | rfl | rfl | rfl | rfl | rfl | rfl <;> omega
theorem dnum_year_lt (y z : Int) (h : y < z) : dnum (y + 1) 1 1 ≤ dnum z 1 1 := by
  have : era (y) + 365 * (z - 1 - y) ≤ era (z - 1) := by unfold era; omega
  simp only [dnum, march]; simp; omega
/-- a date has one number: later dates have greater ones -/
theorem dnum_inj {y m d y' m' d' : Int} (h : dmay y m d = true) (h' : dmay y' m' d' = true) (he : dnum y m d = dnum y' m' d') : y = y' ∧ m = m' ∧ d = d' := by
  rw [dmay_iff] at h h'
  have hd := dnum_day y m d
  have hd' := dnum_day y' m' d'
  have a := dnum_month_le y m (by omega) (by omega)
  have a' := dnum_month_le y' m' (by omega) (by omega)
  have hy : y = y' := by
    rcases Int.lt_trichotomy y y' with hlt | heq | hlt
    · have := dnum_year_lt y y' hlt; omega
    · exact heq
    · have := dnum_year_lt y' y hlt; omega
  subst hy
  have step : ∀ k : Nat, ∀ m : Int, 1 ≤ m → m + k + 1 ≤ 12 → dnum y m 1 + mlen y m ≤ dnum y (m + k + 1) 1 := by
    intro k
    induction k with
    | zero => intro m h1 h2; have := dnum_next_month y m h1 (by omega); simp at *; omega
    | succ k ih =>
      intro m h1 h2
      have h3 := ih m h1 (by omega)
      have h4 := dnum_next_month y (m + k + 1) (by omega) (by omega)
      have h5 := mlen_in y (m + k + 1) (by omega) (by omega)
      have e : m + ((k + 1 : Nat) : Int) + 1 = m + k + 1 + 1 := by omega
      rw [e]; omega
  have hm : m = m' := by
    rcases Int.lt_trichotomy m m' with hlt | heq | hlt
    · have := step (m' - m - 1).toNat m (by omega) (by omega)
      have e : m + ((m' - m - 1).toNat : Int) + 1 = m' := by omega
      rw [e] at this; omega
    · exact heq
    · have := step (m - m' - 1).toNat m' (by omega) (by omega)
      have e : m' + ((m - m' - 1).toNat : Int) + 1 = m := by omega
      rw [e] at this; omega
  subst hm
  refine ⟨rfl, rfl, ?_⟩; omega
theorem dnum_range {y m d : Int} (h : dmay y m d = true) : 0 ≤ dnum y m d ∧ dnum y m d < 109938 := by
  rw [dmay_iff] at h
  have hd := dnum_day y m d
  have a := dnum_month_le y m (by omega) (by omega)
  have b := dnum_first
  have c := dnum_last
  have h1 : dnum 1900 1 1 ≤ dnum y 1 1 := by
    by_cases e : y = 1900
    · subst e; omega
    · have := dnum_year_lt 1900 y (by omega)
      have h2 := dnum_next_year 1900
      have := dnum_month_le 1900 12 (by omega) (by omega)
      omega
  have h2 : dnum (y + 1) 1 1 ≤ dnum 2201 1 1 := by
    exact dnum_year_lt y 2201 (by omega)
  omega
/-- the date of a number, by the program's own reckoning -/
def dyear (N : Int) : Int := if era (N / 365) ≤ N then N / 365 else if era (N / 365 - 1) ≤ N then N / 365 - 1 else N / 365 - 2
def dateOf (n : Int) : Int × Int × Int :=
  let N := n + 693901
  let y := dyear N
  let m := (5 * (N - era y) + 2) / 153
  let d := N - era y - march m + 1
  if 10 ≤ m then (y + 1, m - 9, d) else (y, m + 3, d)
theorem dyear_spec (N : Int) (h : 693901 ≤ N) (h2 : N < 803839) : era (dyear N) ≤ N ∧ N < era (dyear N + 1) ∧ 1899 ≤ dyear N ∧ dyear N ≤ 2200 := by
  unfold dyear
  split
  · simp only [era] at *; omega
  · split
    · rw [show N / 365 - 1 + 1 = N / 365 by omega]; simp only [era] at *; omega
    · rw [show N / 365 - 2 + 1 = N / 365 - 1 by omega]; simp only [era] at *; omega
theorem dateOf_spec (n : Int) (h0 : 0 ≤ n) (h1 : n < 109938) : dmay (dateOf n).1 (dateOf n).2.1 (dateOf n).2.2 = true ∧ dnum (dateOf n).1 (dateOf n).2.1 (dateOf n).2.2 = n := by
  obtain ⟨e1, e2, e3, e4⟩ := dyear_spec (n + 693901) (by omega) (by omega)
  have hr : ∃ r, r = n + 693901 - era (dyear (n + 693901)) := ⟨_, rfl⟩
  obtain ⟨r, hr⟩ := hr
  have hr0 : 0 ≤ r := by omega
  have hstep : era (dyear (n + 693901) + 1) = era (dyear (n + 693901)) + 365 + (if leap (dyear (n + 693901) + 1) then 1 else 0) := by
    have hl := leap_iff (dyear (n + 693901) + 1)
    have hl2 : leap (dyear (n + 693901) + 1) = true ∨ leap (dyear (n + 693901) + 1) = false := by cases leap (dyear (n + 693901) + 1) <;> simp
    unfold era
    rcases hl2 with h | h <;> simp [h] at hl ⊢ <;> omega
  generalize hy : dyear (n + 693901) = y at *
  have hm : ∃ m, m = (5 * r + 2) / 153 := ⟨_, rfl⟩
  obtain ⟨m, hm⟩ := hm
  have hl2 : leap (y + 1) = true ∨ leap (y + 1) = false := by cases leap (y + 1) <;> simp
  have hml : ∀ k : Int, mlen (y + 1) k = (if k = 2 then (if leap (y + 1) then 29 else 28) else mlen (y + 1) k) := fun k => by
    split
    · rename_i h; subst h; exact mlen2 _
    · rfl
  have hrle : r ≤ 364 + (if leap (y + 1) then 1 else 0) := by rw [hstep] at e2; omega
  have hm0 : 0 ≤ m ∧ m ≤ 11 := by split at hrle <;> omega
  have hcase : m = 0 ∨ m = 1 ∨ m = 2 ∨ m = 3 ∨ m = 4 ∨ m = 5 ∨ m = 6 ∨ m = 7 ∨ m = 8 ∨ m = 9 ∨ m = 10 ∨ m = 11 := by omega
  have hmid : m < 10 → y ≠ 1899 := by intro h; unfold era at hr; omega
  have hend : 10 ≤ m → y ≤ 2199 := by intro h; unfold era at hr; omega
  have hd : dateOf n = if 10 ≤ m then (y + 1, m - 9, r - march m + 1) else (y, m + 3, r - march m + 1) := by
    unfold dateOf; simp only [hy, ← hr, ← hm]
  rw [hd]
  by_cases h10 : 10 ≤ m
  · rw [if_pos h10]
    simp only
    refine ⟨?_, ?_⟩
    · rw [dmay_iff]
      have hm2 : m = 10 ∨ m = 11 := by omega
      rcases hm2 with h | h
      · subst h; have : mlen (y + 1) (10 - 9) = 31 := by simp [mlen]
        rw [this]; have := hend (by omega); unfold march; omega
      · subst h; have e : (11 : Int) - 9 = 2 := by decide
        rw [e, mlen2]; have := hend (by omega); unfold march
        rcases hl2 with h | h <;> simp [h] at hrle ⊢ <;> omega
    · unfold dnum
      rw [if_pos (by omega)]
      have e : y + 1 - 1 = y := by omega
      have e' : m - 9 + 9 = m := by omega
      rw [e, e']; omega
  · rw [if_neg h10]
    simp only
    refine ⟨?_, ?_⟩
    · rw [dmay_iff]
      have := hmid (by omega)
      have hb : 28 ≤ mlen y (m + 3) := mlen_in _ _ (by omega) (by omega)
      have hm3 : m = 0 ∨ m = 1 ∨ m = 2 ∨ m = 3 ∨ m = 4 ∨ m = 5 ∨ m = 6 ∨ m = 7 ∨ m = 8 ∨ m = 9 := by omega
      rcases hm3 with h | h | h | h | h | h | h | h | h | h <;> subst h <;> simp only [mlen] at * <;> simp at * <;> unfold march <;> omega
    · unfold dnum
      rw [if_neg (by omega)]
      have e' : m + 3 - 3 = m := by omega
      rw [e']; omega
theorem dateOf_dnum {y m d : Int} (h : dmay y m d = true) : dateOf (dnum y m d) = (y, m, d) := by
  obtain ⟨h0, h1⟩ := dnum_range h
  obtain ⟨a, b⟩ := dateOf_spec _ h0 h1
  obtain ⟨e1, e2, e3⟩ := dnum_inj a h b
  ext <;> assumption
end Go.Proofs.YthcngkcfopaigaaGreat

namespace Go.Proofs.YthcngkcfopaigaaGreat
/-- the days from a on, ahead of b, that f lets in -/
def daysIn (f : Int → Bool) (a b : Int) : List Int := ((List.range (b - a).toNat).map fun (i : Nat) => a + (i : Int)).filter f
theorem mem_daysIn {f : Int → Bool} {a b n : Int} : n ∈ daysIn f a b ↔ a ≤ n ∧ n < b ∧ f n = true := by
  simp only [daysIn, List.mem_filter, List.mem_map, List.mem_range]
  constructor
  · rintro ⟨⟨i, hi, rfl⟩, hf⟩; exact ⟨by omega, by omega, hf⟩
  · rintro ⟨h1, h2, hf⟩; exact ⟨⟨(n - a).toNat, by omega, by omega⟩, hf⟩
theorem daysIn_nil {f : Int → Bool} {a b : Int} (h : b ≤ a) : daysIn f a b = [] := by
  have : (b - a).toNat = 0 := by omega
  simp [daysIn, this]
theorem daysIn_snoc {f : Int → Bool} {a b : Int} (h : a ≤ b) : daysIn f a (b + 1) = daysIn f a b ++ (if f b then [b] else []) := by
  have e : (b + 1 - a).toNat = (b - a).toNat + 1 := by omega
  have e2 : a + ((b - a).toNat : Int) = b := by omega
  simp only [daysIn, e, List.range_succ, List.map_append, List.filter_append, List.map_cons, List.map_nil, e2, List.filter_cons, List.filter_nil]
theorem daysIn_sorted (f : Int → Bool) (a b : Int) : (daysIn f a b).Pairwise (· < ·) := by
  unfold daysIn
  apply List.Pairwise.filter
  rw [List.pairwise_map]
  exact (List.pairwise_lt_range).imp (by intro x y h; omega)
theorem sorted_ext : ∀ {l m : List Int}, l.Pairwise (· < ·) → m.Pairwise (· < ·) → (∀ x, x ∈ l ↔ x ∈ m) → l = m
  | [], [], _, _, _ => rfl
  | [], y :: m, _, _, h => by have := (h y).2 (by simp); simp at this
  | x :: l, [], _, _, h => by have := (h x).1 (by simp); simp at this
  | x :: l, y :: m, hl, hm, h => by
    rw [List.pairwise_cons] at hl hm
    have hxy : x = y := by
      have h1 := (h x).1 (by simp)
      have h2 := (h y).2 (by simp)
      simp only [List.mem_cons] at h1 h2
      rcases h1 with h1 | h1
      · exact h1
      · rcases h2 with h2 | h2
        · exact h2.symm
        · have := hl.1 y h2; have := hm.1 x h1; omega
    subst hxy
    congr 1
    refine sorted_ext hl.2 hm.2 fun z => ?_
    have hz := h z
    simp only [List.mem_cons] at hz
    constructor
    · intro h1
      rcases hz.1 (.inr h1) with h2 | h2
      · have := hl.1 z h1; omega
      · exact h2
    · intro h1
      rcases hz.2 (.inr h1) with h2 | h2
      · have := hm.1 z h1; omega
      · exact h2
theorem daysIn_append {f : Int → Bool} {a b c : Int} (h : a ≤ b) (h2 : b ≤ c) : daysIn f a b ++ daysIn f b c = daysIn f a c := by
  apply sorted_ext
  · rw [List.pairwise_append]
    refine ⟨daysIn_sorted _ _ _, daysIn_sorted _ _ _, fun x hx y hy => ?_⟩
    have := (mem_daysIn.1 hx); have := mem_daysIn.1 hy; omega
  · exact daysIn_sorted _ _ _
  · intro x
    simp only [List.mem_append, mem_daysIn]
    constructor
    · rintro (⟨h1, h2, h3⟩ | ⟨h1, h2, h3⟩) <;> exact ⟨by omega, by omega, h3⟩
    · rintro ⟨h1, h2, h3⟩
      by_cases hx : x < b
      · exact .inl ⟨h1, hx, h3⟩
      · exact .inr ⟨by omega, h2, h3⟩
theorem daysIn_congr {f g : Int → Bool} {a b : Int} (h : ∀ n, a ≤ n → n < b → f n = g n) : daysIn f a b = daysIn g a b := by
  apply sorted_ext (daysIn_sorted _ _ _) (daysIn_sorted _ _ _)
  intro x; simp only [mem_daysIn]
  constructor
  · rintro ⟨h1, h2, h3⟩; exact ⟨h1, h2, by rw [← h x h1 h2]; exact h3⟩
  · rintro ⟨h1, h2, h3⟩; exact ⟨h1, h2, by rw [h x h1 h2]; exact h3⟩
/- a day's date -/
def yr (n : Int) : Int := (dateOf n).1
def mo (n : Int) : Int := (dateOf n).2.1
def da (n : Int) : Int := (dateOf n).2.2
theorem dat_spec {n : Int} (h0 : 0 ≤ n) (h1 : n < 109938) : 1900 ≤ yr n ∧ yr n ≤ 2200 ∧ 1 ≤ mo n ∧ mo n ≤ 12 ∧ 1 ≤ da n ∧ da n ≤ mlen (yr n) (mo n) ∧ mlen (yr n) (mo n) ≤ 31 ∧ n = dnum (yr n) (mo n) 1 + da n - 1 := by
  have h := dateOf_spec n h0 h1
  have h2 := (dmay_iff _ _ _).1 h.1
  have h3 := h.2
  rw [dnum_day] at h3
  exact ⟨h2.1, h2.2.1, h2.2.2.1, h2.2.2.2.1, h2.2.2.2.2.1, h2.2.2.2.2.2, (mlen_le _ _).2, h3.symm⟩
/- which days a rule lets in -/
def has (l : List Int) (n : Int) : Bool := l.any fun x => decide (x = n)
def nthB (l : List (Int × Int)) (d long wd : Int) : Bool := l.any fun x => decide (x.2 = wd) && (decide (x.1 = 0) || decide (x.1 = (d - 1) / 7 + 1) || decide (x.1 = -((long - d) / 7 + 1)))
def long (n : Int) : Int := mlen (yr n) (mo n)
def rright (r : RuleV) (n : Int) : Bool :=
  (decide (r.byMonth.length = 0) || has r.byMonth (mo n)) && (decide (r.byMonthDay.length = 0) || has r.byMonthDay (da n) || has r.byMonthDay (da n - long n - 1)) &&
  (decide (r.byDay.length = 0) || nthB r.byDay (da n) (long n) (n % 7))
def rplain (r : RuleV) : Bool := decide (r.byMonthDay.length = 0) && decide (r.byDay.length = 0)
def rusual (r : RuleV) (s n : Int) : Bool :=
  if r.freq = 2 then !rplain r || decide (n % 7 = s % 7)
  else if r.freq = 3 then !rplain r || decide (da n = da s)
  else if r.freq = 4 then !rplain r || (decide (da n = da s) && (decide (0 < r.byMonth.length) || decide (mo n = mo s)))
  else true
def good (r : RuleV) (s n : Int) : Bool := rright r n && rusual r s n
/- a day's period; the first day of a period -/
def into (r : RuleV) (s : Int) : Int := (s % 7 - r.start) % 7
def pnum (r : RuleV) (s n : Int) : Int :=
  if r.freq = 1 then n - s else if r.freq = 2 then (n - s + into r s) / 7
  else if r.freq = 3 then 12 * (yr n - yr s) + mo n - mo s else yr n - yr s
/-- the first day of a month that is told by the number of months since year 0 -/
def firstOf (q : Int) : Int := dnum (q / 12) (q % 12 + 1) 1
def pfirst (r : RuleV) (s p : Int) : Int :=
  if r.freq = 1 then s + p else if r.freq = 2 then s - into r s + 7 * p
  else if r.freq = 3 then firstOf (12 * yr s + mo s - 1 + p) else dnum (yr s + p) 1 1
theorem firstOf_next (q : Int) : firstOf (q + 1) = firstOf q + mlen (q / 12) (q % 12 + 1) := by
  unfold firstOf
  by_cases h : q % 12 = 11
  · have e1 : (q + 1) / 12 = q / 12 + 1 := by omega
    have e2 : (q + 1) % 12 = 0 := by omega
    rw [e1, e2, h, show ((0 : Int) + 1) = 1 by rfl, dnum_next_year, show ((11 : Int) + 1) = 12 by rfl]
    rfl
  · have e1 : (q + 1) / 12 = q / 12 := by omega
    have e2 : (q + 1) % 12 = q % 12 + 1 := by omega
    rw [e1, e2, dnum_next_month _ _ (by omega) (by omega)]
theorem firstOf_gap (q : Int) (k : Nat) : firstOf q + 28 * k ≤ firstOf (q + k) ∧ firstOf (q + k) ≤ firstOf q + 31 * k := by
  induction k with
  | zero => simp
  | succ k ih =>
    have e : q + ((k + 1 : Nat) : Int) = q + k + 1 := by omega
    have h1 := mlen_in ((q + k) / 12) ((q + k) % 12 + 1) (by omega) (by omega)
    have h2 := (mlen_le ((q + k) / 12) ((q + k) % 12 + 1)).2
    rw [e, firstOf_next]
    omega
theorem firstOf_mono {p q : Int} (h : p ≤ q) : firstOf p ≤ firstOf q := by
  obtain ⟨k, rfl⟩ : ∃ k : Nat, q = p + k := ⟨(q - p).toNat, by omega⟩
  have := firstOf_gap p k; omega
theorem firstOf_year (y : Int) : firstOf (12 * y) = dnum y 1 1 := by
  unfold firstOf
  rw [show 12 * y / 12 = y by omega, show 12 * y % 12 = 0 by omega]; rfl
theorem dat_first {n : Int} (h0 : 0 ≤ n) (h1 : n < 109938) : firstOf (12 * yr n + mo n - 1) ≤ n ∧ n < firstOf (12 * yr n + mo n - 1 + 1) := by
  have h := dat_spec h0 h1
  have e1 : (12 * yr n + mo n - 1) / 12 = yr n := by omega
  have e2 : (12 * yr n + mo n - 1) % 12 + 1 = mo n := by omega
  rw [firstOf_next]
  unfold firstOf
  rw [e1, e2]
  omega
/-- a day of the calendar lies in that month whose days begin at or ahead of it -/
theorem month_iff {n q : Int} (h0 : 0 ≤ n) (h1 : n < 109938) : 12 * yr n + mo n - 1 = q ↔ firstOf q ≤ n ∧ n < firstOf (q + 1) := by
  have h := dat_first h0 h1
  constructor
  · rintro rfl; exact h
  · intro h2
    generalize 12 * yr n + mo n - 1 = p at h
    by_cases h3 : p < q
    · have := firstOf_mono (show p + 1 ≤ q by omega); omega
    · by_cases h4 : q < p
      · have := firstOf_mono (show q + 1 ≤ p by omega); omega
      · omega
theorem year_iff {n y : Int} (h0 : 0 ≤ n) (h1 : n < 109938) : yr n = y ↔ dnum y 1 1 ≤ n ∧ n < dnum (y + 1) 1 1 := by
  have h := dat_spec h0 h1
  have h2 := dat_first h0 h1
  rw [← firstOf_year, ← firstOf_year]
  constructor
  · rintro rfl
    have := firstOf_mono (show 12 * yr n ≤ 12 * yr n + mo n - 1 by omega)
    have := firstOf_mono (show 12 * yr n + mo n - 1 + 1 ≤ 12 * (yr n + 1) by omega)
    omega
  · intro h3
    by_cases h4 : yr n < y
    · have := firstOf_mono (show 12 * yr n + mo n - 1 + 1 ≤ 12 * y by omega); omega
    · by_cases h5 : y < yr n
      · have := firstOf_mono (show 12 * (y + 1) ≤ 12 * yr n + mo n - 1 by omega); omega
      · omega
/-- a day's period is p just where the day lies between p's first day and the next one's -/
theorem pnum_iff (r : RuleV) {s n p : Int} (h0 : 0 ≤ n) (h1 : n < 109938) (_hs0 : 0 ≤ s) (_hs1 : s < 109938) : pnum r s n = p ↔ pfirst r s p ≤ n ∧ n < pfirst r s (p + 1) := by
  unfold pnum pfirst
  by_cases f1 : r.freq = 1
  · simp only [f1, if_pos]; omega
  by_cases f2 : r.freq = 2
  · simp only [f2]
    simp only [show ¬ ((2 : Int) = 1) by omega, if_true, if_false]
    omega
  by_cases f3 : r.freq = 3
  · simp only [f3]
    simp only [show ¬ ((3 : Int) = 1) by omega, show ¬ ((3 : Int) = 2) by omega, if_true, if_false]
    have := month_iff (q := 12 * yr s + mo s - 1 + p) h0 h1
    rw [show 12 * yr s + mo s - 1 + (p + 1) = 12 * yr s + mo s - 1 + p + 1 by omega, ← this]
    omega
  · simp only [f1, f2, f3, if_false]
    have := year_iff (y := yr s + p) h0 h1
    rw [show yr s + (p + 1) = yr s + p + 1 by omega, ← this]
    omega
def plong (r : RuleV) : Int := if r.freq = 1 then 1 else if r.freq = 2 then 7 else if r.freq = 3 then 31 else 366
theorem pfirst_next (r : RuleV) (s p : Int) : pfirst r s p < pfirst r s (p + 1) ∧ pfirst r s (p + 1) ≤ pfirst r s p + plong r := by
  unfold pfirst plong
  by_cases f1 : r.freq = 1
  · simp only [f1, if_pos]; omega
  by_cases f2 : r.freq = 2
  · simp only [f2]
    simp only [show ¬ ((2 : Int) = 1) by omega, if_true, if_false]
    omega
  by_cases f3 : r.freq = 3
  · simp only [f3]
    simp only [show ¬ ((3 : Int) = 1) by omega, show ¬ ((3 : Int) = 2) by omega, if_true, if_false]
    have := firstOf_gap (12 * yr s + mo s - 1 + p) 1
    rw [show 12 * yr s + mo s - 1 + (p + 1) = 12 * yr s + mo s - 1 + p + (1 : Nat) by omega]
    omega
  · simp only [f1, f2, f3, if_false]
    rw [show yr s + (p + 1) = yr s + p + 1 by omega, dnum_next_year]
    generalize yr s + p = y
    simp only [dnum, era, march]
    simp
    omega
theorem pfirst_mono (r : RuleV) (s : Int) {p q : Int} (h : p ≤ q) : pfirst r s p ≤ pfirst r s q := by
  obtain ⟨k, rfl⟩ : ∃ k : Nat, q = p + k := ⟨(q - p).toNat, by omega⟩
  clear h
  induction k with
  | zero => simp
  | succ k ih =>
    have e : p + ((k + 1 : Nat) : Int) = p + k + 1 := by omega
    have := pfirst_next r s (p + k)
    rw [e]; omega
theorem pfirst_far (r : RuleV) (s : Int) (p : Int) (k : Nat) : pfirst r s (p + k) ≤ pfirst r s p + plong r * k := by
  induction k with
  | zero => simp
  | succ k ih =>
    have e : p + ((k + 1 : Nat) : Int) = p + k + 1 := by omega
    have := pfirst_next r s (p + k)
    rw [e, show ((k + 1 : Nat) : Int) = (k : Int) + 1 by omega, Int.mul_add, Int.mul_one]; omega
theorem pfirst_zero (r : RuleV) {s : Int} (hs0 : 0 ≤ s) (hs1 : s < 109938) : pfirst r s 0 ≤ s ∧ s < pfirst r s 1 := by
  have h : pnum r s s = 0 := by
    unfold pnum
    by_cases f1 : r.freq = 1
    · simp [f1]
    by_cases f2 : r.freq = 2
    · simp [f2, into]; omega
    by_cases f3 : r.freq = 3
    · simp [f3]
    · simp [f1, f2, f3]
  exact (pnum_iff r hs0 hs1 hs0 hs1).1 h
end Go.Proofs.YthcngkcfopaigaaGreat
