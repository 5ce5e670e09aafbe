/- Package wheel, in plain words: what stands where as time goes by. -/
import Derived.Test.YtndpkonihcebeaaRst
namespace Go.Proofs.Ytndpkonihcebeaa.Whl
open Go.RowKit Go.Proofs.Ytndpkonihcebeaa Go.Proofs.Ytndpkonihcebeaa.Cell Go.Proofs.Ytndpkonihcebeaa.Seq Go.Proofs.Ytndpkonihcebeaa.Num Go.Proofs.Ytndpkonihcebeaa.SetN Go.Proofs.Ytndpkonihcebeaa.Dig Go.Proofs.Ytndpkonihcebeaa.Bits
set_option linter.unusedVariables false
set_option linter.unusedSimpArgs false
variable {L S B N : Nat}

theorem dig_nat (t : Int) {k : Nat} (b : Int) (hk : k ≤ 64) : dig t (k : Int) b = tm t / 2 ^ (wd b * k) % 2 ^ wd b := by
  unfold dig sh
  rw [lv_nat k hk, Nat.mul_comm k]
/-- Where what is due later stands, in plain numbers. -/
def Stand (w n d L lv sl : Nat) : Prop := n < d ∧ ∃ i, 1 ≤ i ∧ i ≤ 32 ∧ Num.Top w n d i ∧ ((lv = i - 1 ∧ lv < L ∧ sl = d / 2 ^ (w * lv) % 2 ^ w) ∨ (lv = L ∧ sl = 0 ∧ L ≤ i - 1))
theorem Placed.stand {now d : Int} {lv sl : Nat} (h : Placed now d L B S lv sl) : Stand (wd (B : Int)) (tm now) (tm d) L lv sl := by
  have hp := h.at_
  unfold placeOf at hp
  by_cases hl : tm d ≤ tm now
  · rw [if_pos hl] at hp
    simp only [Prod.mk.injEq] at hp
    omega
  · rw [if_neg hl] at hp
    obtain ⟨i, hi, e⟩ := topOf_spec now d B
    have h32 := hi.le (wd_bd (B : Int)).1 (tm_lt now) (tm_lt d)
    have hi1 : 1 ≤ i := by
      rcases Nat.eq_zero_or_pos i with h0 | h0
      · have := hi.zero_iff.1 h0; omega
      · exact h0
    refine ⟨by omega, i, hi1, h32, hi, ?_⟩
    by_cases ht : topOf now d B < (L : Int)
    · rw [if_pos ht] at hp
      simp only [Prod.mk.injEq] at hp
      have e2 : lv = i - 1 := by omega
      have e3 : topOf now d B = (lv : Int) := by omega
      rw [e3, dig_nat d (B : Int) (by omega)] at hp
      exact Or.inl ⟨e2, by omega, by omega⟩
    · rw [if_neg ht] at hp
      simp only [Prod.mk.injEq] at hp
      exact Or.inr ⟨by omega, by omega, by omega⟩
theorem Placed.of_stand {now d : Int} {lv sl : Nat} (h : Stand (wd (B : Int)) (tm now) (tm d) L lv sl) (hl : lv ≤ L) (hs : sl < S) : Placed now d L B S lv sl := by
  refine ⟨?_, hl, hs⟩
  obtain ⟨hlt, i, hi1, h32, hi, hc⟩ := h
  have e := topOf_eq (a := now) (c := d) (b := (B : Int)) hi
  unfold placeOf
  rw [if_neg (by omega)]
  rcases hc with ⟨h1, h2, h3⟩ | ⟨h1, h2, h3⟩
  · rw [if_pos (by omega)]
    have e3 : topOf now d B = (lv : Int) := by omega
    rw [e3, dig_nat d (B : Int) (by omega), ← h3]
  · rw [if_neg (by omega), h1, h2]; rfl
/-- Which slots are passed, in plain numbers. -/
structure CrP (w n m : Nat) (cr : Nat → Option (Nat × Nat)) : Prop where
  still : ∀ l, m ≤ n → cr l = none
  above : ∀ l j, Num.Top w n m j → l ≤ 64 → j ≤ l → cr l = none
  all : ∀ l j, n < m → Num.Top w n m j → l ≤ 64 → l + 1 < j → cr l = some (0, 2 ^ w - 1)
  edge : ∀ l j, n < m → Num.Top w n m j → l ≤ 64 → l + 1 = j → cr l = some (n / 2 ^ (w * l) % 2 ^ w + 1, m / 2 ^ (w * l) % 2 ^ w)
theorem crOf_p (fr to' : Int) (B : Nat) : CrP (wd (B : Int)) (tm fr) (tm to') (crOf fr to' B) := by
  refine ⟨fun l h => ?_, fun l j hj hl h => ?_, fun l j hlt hj hl h => ?_, fun l j hlt hj hl h => ?_⟩
  · unfold crOf
    rw [cross_no (Or.inl h)]; rfl
  · unfold crOf
    have e := topOf_eq (a := fr) (c := to') (b := (B : Int)) hj
    rw [cross_no (Or.inr (by omega))]; rfl
  · unfold crOf
    have e := topOf_eq (a := fr) (c := to') (b := (B : Int)) hj
    rw [cross_all (by omega) (by omega)]
    have := Nat.two_pow_pos (wd (B : Int))
    rw [if_pos rfl]
    congr 2
    show (((2 ^ wd (B : Int) : Nat) : Int) - 1).toNat = 2 ^ wd (B : Int) - 1
    omega
  · unfold crOf
    have e := topOf_eq (a := fr) (c := to') (b := (B : Int)) hj
    rw [cross_edge (by omega) (by omega), if_pos rfl, dig_nat fr _ hl, dig_nat to' _ hl]
    congr 2
theorem Top.ne_of_digit {w a b k : Nat} (h : a / 2 ^ (w * k) % 2 ^ w ≠ b / 2 ^ (w * k) % 2 ^ w) : a / 2 ^ (w * k) ≠ b / 2 ^ (w * k) := fun e => h (by rw [e])
/-- What isn't passed isn't due, and stands at its place as seen from the later time. -/
theorem Stand.stay {w n m d lv sl : Nat} {cr : Nat → Option (Nat × Nat)} (hcr : CrP w n m cr) (hw : 1 ≤ w) (hm : m < 4294967296) (hn : n < 4294967296) (hL : L ≤ 64) (hs : Stand w n d L lv sl) (hnm : n ≤ m) (hps : ¬ ps cr L 0 lv sl) : Stand w m d L lv sl := by
  obtain ⟨hlt, i, hi1, h32, hi, hc⟩ := hs
  obtain ⟨j, hj⟩ := Num.Top.exists hw n m
  have hj32 := hj.le hw hn hm
  -- the later time parts from d at the same digit
  have same : j ≤ i - 1 → Stand w m d L lv sl := fun h => by
    have t1 : m / 2 ^ (w * i) = d / 2 ^ (w * i) := by rw [← hi.eq]; exact (eq_up hj.eq (by omega)).symm
    have e2 : m / 2 ^ (w * (i - 1)) = n / 2 ^ (w * (i - 1)) := (eq_up hj.eq h).symm
    have ht : Num.Top w m d i := Num.Top.of t1 fun _ => by rw [e2]; exact hi.ne (i - 1) (by omega)
    refine ⟨?_, i, hi1, h32, ht, hc⟩
    have ht' : Num.Top w m d (i - 1 + 1) := by rw [show i - 1 + 1 = i by omega]; exact ht
    have hi' : Num.Top w n d (i - 1 + 1) := by rw [show i - 1 + 1 = i by omega]; exact hi
    rw [ht'.order, e2, ← hi'.order]; exact hlt
  rcases Nat.lt_or_ge n m with hlt2 | hge
  · by_cases hji : j ≤ i - 1
    · exact same hji
    · -- the later time parts from n at d's digit, or above
      have some_ : ∀ l, l < j → l ≤ 64 → cr l ≠ none := fun l h1 h2 => by
        by_cases h3 : l + 1 < j
        · rw [hcr.all l j hlt2 hj h2 h3]; simp
        · rw [hcr.edge l j hlt2 hj h2 (by omega)]; simp
      rcases hc with ⟨h1, h2, h3⟩ | ⟨h1, h2, h3⟩
      · by_cases h4 : lv + 1 < j
        · exfalso
          apply hps
          refine ⟨fun l _ hl => some_ l (by omega) (by omega), 0, 2 ^ w - 1, hcr.all lv j hlt2 hj (by omega) h4, Or.inr ⟨Nat.zero_le _, ?_⟩⟩
          have := Nat.mod_lt (d / 2 ^ (w * lv)) (Nat.two_pow_pos w)
          omega
        · have hjl : lv + 1 = j := by omega
          have hil : i = lv + 1 := by omega
          rw [hil] at hi
          rw [← hjl] at hj
          have o1 := hi.order.1 hlt
          by_cases h5 : d / 2 ^ (w * lv) % 2 ^ w ≤ m / 2 ^ (w * lv) % 2 ^ w
          · exfalso
            apply hps
            refine ⟨fun l _ hl => some_ l (by omega) (by omega), _, _, hcr.edge lv (lv + 1) hlt2 hj (by omega) rfl, Or.inr ⟨by omega, by omega⟩⟩
          · have ht : Num.Top w m d (lv + 1) := Num.Top.of (by rw [← hi.eq]; exact hj.eq.symm) fun _ => by
              show m / 2 ^ (w * lv) ≠ d / 2 ^ (w * lv)
              exact Top.ne_of_digit (by omega)
            exact ⟨ht.order.2 (by omega), lv + 1, by omega, by omega, ht, Or.inl ⟨by omega, h2, h3⟩⟩
      · exfalso
        apply hps
        have hLj : L < j := by omega
        refine ⟨fun l _ hl => some_ l (by omega) (by omega), ?_⟩
        by_cases h4 : lv + 1 < j
        · exact ⟨_, _, hcr.all lv j hlt2 hj (by omega) h4, Or.inl h1⟩
        · exact ⟨_, _, hcr.edge lv j hlt2 hj (by omega) (by omega), Or.inl h1⟩
  · obtain rfl : n = m := by omega
    exact ⟨hlt, i, hi1, h32, hi, hc⟩
theorem Placed.stay {now d to' : Int} {lv sl : Nat} (h : Placed now d L B S lv sl) (hL : L ≤ 64) (hnt : tm now ≤ tm to') (hps : ¬ ps (crOf now to' B) L 0 lv sl) : tm to' < tm d ∧ Placed to' d L B S lv sl := by
  have hs := h.stand.stay (crOf_p now to' B) (wd_bd (B : Int)).1 (tm_lt to') (tm_lt now) hL hnt hps
  exact ⟨hs.1, Placed.of_stand hs h.l h.s⟩
end Go.Proofs.Ytndpkonihcebeaa.Whl
