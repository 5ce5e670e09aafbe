/- Plain: sets of 64 slots as words, and how many slots they have. No program in sight. -/
import Derived.Test.YtndpkonihcebeaaNum
namespace Go.Proofs.Ytndpkonihcebeaa.SetN
open Go Go.RowKit Go.Proofs.Ytndpkonihcebeaa.Num
set_option linter.unusedVariables false
set_option linter.unusedSimpArgs false

def cnt (s : Nat) : Nat → Nat
  | 0 => 0
  | n + 1 => cnt s n + (if s.testBit n then 1 else 0)

theorem cnt_same {s t : Nat} : ∀ {n : Nat}, (∀ i, i < n → s.testBit i = t.testBit i) → cnt s n = cnt t n
  | 0, _ => rfl
  | n + 1, h => by
    rw [cnt, cnt, cnt_same (fun i hi => h i (by omega)), h n (by omega)]
theorem cnt_one {s t a : Nat} (ha : s.testBit a = true) (hb : t.testBit a = false) (h : ∀ i, i ≠ a → s.testBit i = t.testBit i) : ∀ {n : Nat}, a < n → cnt s n = cnt t n + 1
  | 0, h0 => by omega
  | n + 1, h0 => by
    rw [cnt, cnt]
    by_cases hn : a = n
    · subst hn
      rw [cnt_same (n := a) (fun i hi => h i (by omega)), ha, hb]; simp
    · rw [cnt_one ha hb h (by omega), h n (fun e => hn e.symm)]; omega
theorem cnt_le (s : Nat) : ∀ n, cnt s n ≤ n
  | 0 => Nat.le_refl _
  | n + 1 => by rw [cnt]; have := cnt_le s n; split <;> omega
theorem cnt_zero : ∀ n, cnt 0 n = 0
  | 0 => rfl
  | n + 1 => by rw [cnt, cnt_zero n]; simp

/-- How many slots a set has. -/
def pop (s : Nat) : Nat := cnt s 64
theorem pop_zero : pop 0 = 0 := cnt_zero 64
theorem pop_le (s : Nat) : pop s ≤ 64 := cnt_le s 64

theorem low (s : Nat) : s ≠ 0 → ∃ a, s.testBit a = true ∧ (∀ i, i < a → s.testBit i = false) ∧ (∀ i, i < a → (s - 1).testBit i = true) ∧ (s - 1).testBit a = false ∧ ∀ i, a < i → (s - 1).testBit i = s.testBit i := by
  induction s using Nat.strongRecOn with
  | ind s ih =>
    intro hs
    by_cases h : s % 2 = 1
    · refine ⟨0, by simp [Nat.testBit_zero, h], fun i hi => by omega, fun i hi => by omega, by simp [Nat.testBit_zero]; omega, fun i hi => ?_⟩
      obtain ⟨j, rfl⟩ : ∃ j, i = j + 1 := ⟨i - 1, by omega⟩
      rw [Nat.testBit_succ, Nat.testBit_succ, show (s - 1) / 2 = s / 2 by omega]
    · obtain ⟨a, h1, h2, h3, h4, h5⟩ := ih (s / 2) (by omega) (by omega)
      have e : (s - 1) / 2 = s / 2 - 1 := by omega
      refine ⟨a + 1, by rw [Nat.testBit_succ]; exact h1, fun i hi => ?_, fun i hi => ?_, by rw [Nat.testBit_succ, e]; exact h4, fun i hi => ?_⟩
      · cases i with
        | zero => simp [Nat.testBit_zero]; omega
        | succ j => rw [Nat.testBit_succ]; exact h2 j (by omega)
      · cases i with
        | zero => simp [Nat.testBit_zero]; omega
        | succ j => rw [Nat.testBit_succ, e]; exact h3 j (by omega)
      · cases i with
        | zero => omega
        | succ j => rw [Nat.testBit_succ, Nat.testBit_succ, e]; exact h5 j (by omega)

theorem bit_lt {s a : Nat} (hs : s < 2 ^ 64) (h : s.testBit a = true) : a < 64 := by
  rcases Nat.lt_or_ge a 64 with h' | h'
  · exact h'
  · rw [Nat.testBit_lt_two_pow (Nat.lt_of_lt_of_le hs (Nat.pow_le_pow_right (by decide) h'))] at h
    cases h

theorem pop_low {s : Nat} (h : s ≠ 0) (hs : s < 2 ^ 64) : pop s = pop (s &&& (s - 1)) + 1 := by
  obtain ⟨a, h1, h2, h3, h4, h5⟩ := low s h
  refine cnt_one h1 (by rw [Nat.testBit_and, h4]; simp) (fun i hi => ?_) (bit_lt hs h1)
  rw [Nat.testBit_and]
  rcases Nat.lt_or_gt_of_ne hi with hl | hl
  · rw [h2 i hl]; simp
  · rw [h5 i hl]; simp

/-- The set with a slot more. -/
def putIn (s a : Nat) : Nat := s ||| 2 ^ a
/-- The set without a slot. -/
def takeOut (s a : Nat) : Nat := s &&& (2 ^ 64 - 1 - 2 ^ a)

theorem pow_lt64 {a : Nat} (h : a < 64) : 2 ^ a < 2 ^ 64 := Nat.pow_lt_pow_right (by decide) h
theorem putIn_lt {s a : Nat} (hs : s < 2 ^ 64) (h : a < 64) : putIn s a < 2 ^ 64 := Nat.or_lt_two_pow hs (pow_lt64 h)
theorem takeOut_lt {s a : Nat} (hs : s < 2 ^ 64) : takeOut s a < 2 ^ 64 := Nat.lt_of_le_of_lt Nat.and_le_left hs
theorem bit_putIn (s a i : Nat) : (putIn s a).testBit i = (s.testBit i || decide (a = i)) := by
  unfold putIn; rw [Nat.testBit_or, Nat.testBit_two_pow]
theorem bit_takeOut {s a : Nat} (hs : s < 2 ^ 64) (h : a < 64) (i : Nat) : (takeOut s a).testBit i = (s.testBit i && !decide (a = i)) := by
  unfold takeOut
  rw [show 2 ^ 64 - 1 - 2 ^ a = 2 ^ 64 - (2 ^ a + 1) by omega, Nat.testBit_and, Nat.testBit_two_pow_sub_succ (pow_lt64 h), Nat.testBit_two_pow]
  by_cases hi : i < 64
  · simp [hi]
  · have : s.testBit i = false := by
      cases e : s.testBit i with
      | false => rfl
      | true => exact absurd (bit_lt hs e) hi
    simp [this]
theorem has_iff (s a : Nat) : ((s &&& 2 ^ a : Nat) = 0) ↔ s.testBit a = false := by
  constructor
  · intro h
    have := congrArg (fun x => x.testBit a) h
    simpa [Nat.testBit_and, Nat.testBit_two_pow] using this
  · intro h
    refine Nat.eq_of_testBit_eq fun i => ?_
    rw [Nat.testBit_and, Nat.testBit_two_pow]
    by_cases e : a = i
    · subst e; simp [h]
    · simp [e]

theorem pop_putIn {s a : Nat} (hs : s < 2 ^ 64) (h : a < 64) : pop (putIn s a) = pop (takeOut s a) + 1 := by
  refine cnt_one (a := a) (by rw [bit_putIn]; simp) (by rw [bit_takeOut hs h]; simp) (fun i hi => ?_) h
  rw [bit_putIn, bit_takeOut hs h]
  have e : decide (a = i) = false := by simp; exact fun e => hi e.symm
  rw [e]; simp
theorem putIn_out {s a : Nat} (hs : s < 2 ^ 64) (h : a < 64) : putIn (takeOut s a) a = putIn s a := by
  refine Nat.eq_of_testBit_eq fun i => ?_
  rw [bit_putIn, bit_putIn, bit_takeOut hs h]
  by_cases e : a = i <;> simp [e]
theorem takeOut_in {s a : Nat} (hs : s < 2 ^ 64) (h : a < 64) : takeOut (putIn s a) a = takeOut s a := by
  refine Nat.eq_of_testBit_eq fun i => ?_
  rw [bit_takeOut (putIn_lt hs h) h, bit_putIn, bit_takeOut hs h]
  by_cases e : a = i <;> simp [e]
theorem putIn_has {s a : Nat} (ha : s.testBit a = true) : putIn s a = s := by
  refine Nat.eq_of_testBit_eq fun i => ?_
  rw [bit_putIn]
  by_cases e : a = i
  · subst e; simp [ha]
  · simp [e]
theorem takeOut_hasn't {s a : Nat} (hs : s < 2 ^ 64) (h : a < 64) (ha : s.testBit a = false) : takeOut s a = s := by
  refine Nat.eq_of_testBit_eq fun i => ?_
  rw [bit_takeOut hs h]
  by_cases e : a = i
  · subst e; simp [ha]
  · simp [e]
theorem putIn_comm (s a b : Nat) : putIn (putIn s a) b = putIn (putIn s b) a := by
  refine Nat.eq_of_testBit_eq fun i => ?_
  simp only [bit_putIn]
  cases s.testBit i <;> cases decide (a = i) <;> cases decide (b = i) <;> rfl
theorem putOut_comm {s a b : Nat} (hs : s < 2 ^ 64) (h : a < 64) (h' : b < 64) (hab : a ≠ b) : putIn (takeOut s a) b = takeOut (putIn s b) a := by
  refine Nat.eq_of_testBit_eq fun i => ?_
  rw [bit_putIn, bit_takeOut hs h, bit_takeOut (putIn_lt hs h') h, bit_putIn]
  by_cases e : a = i
  · subst e
    have e : decide (b = a) = false := by simp; exact fun e => hab e.symm
    rw [e]; simp
  · simp [e]
/-- What a number adds to a set. -/
def addI (s : Nat) (i : Int) : Nat := if 0 ≤ i ∧ i < 64 then putIn s i.toNat else s
theorem addI_lt {s : Nat} (hs : s < 2 ^ 64) (i : Int) : addI s i < 2 ^ 64 := by
  unfold addI; split
  · exact putIn_lt hs (by omega)
  · exact hs
/-- The set of some numbers. -/
def ofL (xs : List Int) : Nat := xs.foldl addI 0
theorem ofL_snoc (xs : List Int) (i : Int) : ofL (xs ++ [i]) = addI (ofL xs) i := by simp [ofL]
theorem ofL_take {xs : List Int} {k : Nat} (h : k < xs.length) : ofL (xs.take (k + 1)) = addI (ofL (xs.take k)) xs[k] := by
  rw [← ofL_snoc]; congr 1; simp
theorem fold_lt : ∀ (xs : List Int) {s : Nat}, s < 2 ^ 64 → xs.foldl addI s < 2 ^ 64
  | [], _, h => h
  | x :: xs, _, h => fold_lt xs (addI_lt h x)
theorem ofL_lt (xs : List Int) : ofL xs < 2 ^ 64 := fold_lt xs (by decide)

/-- What of a set is from one slot to another one. -/
def btw (s f t : Nat) : Nat := s / 2 ^ f * 2 ^ (f + 63 - t) % 2 ^ 64 / 2 ^ (63 - t)
theorem bit_btw {s f t : Nat} (h1 : f ≤ t) (h2 : t ≤ 63) (i : Nat) : (btw s f t).testBit i = (s.testBit i && decide (f ≤ i) && decide (i ≤ t)) := by
  unfold btw
  rw [Nat.testBit_div_two_pow, Nat.testBit_mod_two_pow, Nat.testBit_mul_two_pow, Nat.testBit_div_two_pow]
  by_cases hi : i ≤ t
  · by_cases hf : f ≤ i
    · simp only [show i + (63 - t) < 64 by omega, show f + 63 - t ≤ i + (63 - t) by omega, hi, hf, decide_true, Bool.true_and, Bool.and_true]
      congr 1; omega
    · simp only [show ¬ f + 63 - t ≤ i + (63 - t) by omega, hf, decide_false, Bool.false_and, Bool.and_false]
  · simp only [show ¬ i + (63 - t) < 64 by omega, hi, decide_false, Bool.false_and, Bool.and_false]
theorem btw_lt (s f t : Nat) : btw s f t < 2 ^ 64 := Nat.lt_of_le_of_lt (Nat.div_le_self _ _) (Nat.mod_lt _ (by decide))

/-- The lowest bit of a number alone. -/
theorem low_alone {s a : Nat} (hs : s < 2 ^ 64) (h : s.testBit a = true) (hl : ∀ i, i < a → s.testBit i = false) : s &&& (2 ^ 64 - s) = 2 ^ a := by
  have h0 : s ≠ 0 := by rintro rfl; simp at h
  obtain ⟨b, h1, h2, h3, h4, h5⟩ := low s h0
  have hab : b = a := by
    rcases Nat.lt_trichotomy a b with hh | hh | hh
    · rw [h2 a hh] at h; cases h
    · exact hh.symm
    · rw [hl b hh] at h1; cases h1
  subst hab
  refine Nat.eq_of_testBit_eq fun i => ?_
  rw [show 2 ^ 64 - s = 2 ^ 64 - ((s - 1) + 1) by omega, Nat.testBit_and, Nat.testBit_two_pow_sub_succ (by omega), Nat.testBit_two_pow]
  rcases Nat.lt_trichotomy i b with hh | hh | hh
  · rw [h2 i hh]; simp; omega
  · subst hh; rw [h1, h4]; simp [bit_lt hs h]
  · rw [h5 i hh]
    cases s.testBit i <;> simp <;> omega
theorem cnt_ones (a : Nat) : ∀ n, cnt (2 ^ a - 1) n = min n a
  | 0 => by simp [cnt]
  | n + 1 => by
    rw [cnt, cnt_ones a n, Nat.testBit_two_pow_sub_one]
    by_cases h : n < a
    · simp [h]; omega
    · simp [h]; omega
theorem pop_ones {a : Nat} (h : a ≤ 64) : pop (2 ^ a - 1) = a := by unfold pop; rw [cnt_ones]; omega

theorem cnt_gap {s a b : Nat} (h : ∀ i, a ≤ i → i < b → s.testBit i = false) (hab : a ≤ b) : cnt s b = cnt s a := by
  obtain ⟨d, rfl⟩ : ∃ d, b = a + d := ⟨b - a, by omega⟩
  clear hab
  induction d with
  | zero => rfl
  | succ d ih =>
    rw [← Nat.add_assoc, cnt, ih (fun i h1 h2 => h i h1 (by omega)), h (a + d) (by omega) (by omega)]
    simp
theorem cnt_step {s a : Nat} (h : s.testBit a = true) : cnt s (a + 1) = cnt s a + 1 := by rw [cnt, h]; simp
theorem cnt_mono (s : Nat) {a b : Nat} (hab : a ≤ b) : cnt s a ≤ cnt s b := by
  obtain ⟨d, rfl⟩ : ∃ d, b = a + d := ⟨b - a, by omega⟩
  clear hab
  induction d with
  | zero => exact Nat.le_refl _
  | succ d ih => rw [← Nat.add_assoc, cnt]; omega
theorem cnt_add {s l h : Nat} : ∀ {n : Nat}, (∀ i, i < n → s.testBit i = (l.testBit i || h.testBit i)) → (∀ i, i < n → (l.testBit i && h.testBit i) = false) → cnt l n + cnt h n = cnt s n
  | 0, _, _ => rfl
  | n + 1, h1, h2 => by
    have := cnt_add (n := n) (fun i hi => h1 i (by omega)) (fun i hi => h2 i (by omega))
    rw [cnt, cnt, cnt, h1 n (by omega)]
    have h3 := h2 n (by omega)
    cases e : l.testBit n <;> cases e' : h.testBit n <;> simp_all <;> omega
/-- The first slot from one on, or that there is none. -/
theorem next_cases (s : Nat) : ∀ (d a : Nat), a + d = 64 → (∃ n, a ≤ n ∧ n < 64 ∧ s.testBit n = true ∧ ∀ i, a ≤ i → i < n → s.testBit i = false) ∨ (∀ i, a ≤ i → i < 64 → s.testBit i = false)
  | 0, a, h => .inr fun i h1 h2 => by omega
  | d + 1, a, h => by
    cases e : s.testBit a with
    | true => exact .inl ⟨a, Nat.le_refl _, by omega, e, fun i h1 h2 => by omega⟩
    | false =>
      rcases next_cases s d (a + 1) (by omega) with ⟨n, h1, h2, h3, h4⟩ | h'
      · exact .inl ⟨n, by omega, h2, h3, fun i h5 h6 => by
          rcases Nat.eq_or_lt_of_le h5 with rfl | h7
          · exact e
          · exact h4 i h7 h6⟩
      · exact .inr fun i h5 h6 => by
          rcases Nat.eq_or_lt_of_le h5 with rfl | h7
          · exact e
          · exact h' i h7 h6

/-- What of a set is below a slot. -/
def lowOf (s k : Nat) : Nat := if k = 0 then 0 else btw s 0 (k - 1)
theorem bit_lowOf {s k : Nat} (h : k < 64) (i : Nat) : (lowOf s k).testBit i = (s.testBit i && decide (i < k)) := by
  unfold lowOf
  by_cases h0 : k = 0
  · rw [if_pos h0]; simp [h0]
  · rw [if_neg h0, bit_btw (by omega) (by omega)]
    have e : decide (i ≤ k - 1) = decide (i < k) := by rw [decide_eq_decide]; omega
    rw [e]; simp
theorem bit_highOf {s k : Nat} (hs : s < 2 ^ 64) (h : k < 64) (i : Nat) : (btw s k 63).testBit i = (s.testBit i && decide (k ≤ i)) := by
  rw [bit_btw (by omega) (by omega)]
  by_cases h1 : i ≤ 63
  · simp [h1]
  · have : s.testBit i = false := by
      cases e : s.testBit i with
      | false => rfl
      | true => have := bit_lt hs e; omega
    simp [this]
theorem lowOf_lt (s k : Nat) : lowOf s k < 2 ^ 64 := by
  unfold lowOf; split
  · decide
  · exact btw_lt _ _ _
theorem cut_or {s k : Nat} (hs : s < 2 ^ 64) (h : k < 64) : lowOf s k ||| btw s k 63 = s := by
  refine Nat.eq_of_testBit_eq fun i => ?_
  rw [Nat.testBit_or, bit_lowOf h, bit_highOf hs h]
  by_cases h1 : i < k
  · simp [h1, Nat.not_le_of_lt h1]
  · simp [h1, Nat.le_of_not_lt h1]
theorem cut_and {s k : Nat} (hs : s < 2 ^ 64) (h : k < 64) : lowOf s k &&& btw s k 63 = 0 := by
  refine Nat.eq_of_testBit_eq fun i => ?_
  rw [Nat.testBit_and, bit_lowOf h, bit_highOf hs h]
  by_cases h1 : i < k
  · simp [h1, Nat.not_le_of_lt h1]
  · simp [h1]
theorem cut_pop {s k : Nat} (hs : s < 2 ^ 64) (h : k < 64) : pop (lowOf s k) + pop (btw s k 63) = pop s := by
  refine cnt_add (fun i _ => ?_) (fun i _ => ?_)
  · rw [← Nat.testBit_or, cut_or hs h]
  · rw [← Nat.testBit_and, cut_and hs h]; simp

end Go.Proofs.Ytndpkonihcebeaa.SetN
