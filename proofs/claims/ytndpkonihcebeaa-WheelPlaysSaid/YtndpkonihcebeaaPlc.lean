/- Package knelllaw10: where what is due stands, and what is passed, as natural numbers. -/
import Derived.Test.YtndpkonihcebeaaWls2
namespace Go.Proofs.Ytndpkonihcebeaa.Whl
open Go.RowKit Go.Proofs.Ytndpkonihcebeaa Go.Proofs.Ytndpkonihcebeaa.Cell Go.Proofs.Ytndpkonihcebeaa.Seq Go.Proofs.Ytndpkonihcebeaa.Num Go.Proofs.Ytndpkonihcebeaa.SetN Go.Proofs.Ytndpkonihcebeaa.Dig Go.Proofs.Ytndpkonihcebeaa.Bits
set_option linter.unusedVariables false
set_option linter.unusedSimpArgs false
variable {L S B : Nat}

/-- Which slots of a level are passed, if any. -/
noncomputable def crOf (fr to' : Int) (B : Nat) (lv : Nat) : Option (Nat × Nat) := if (crossOf fr to' lv B).2.2 = true then some ((crossOf fr to' lv B).1.toNat, (crossOf fr to' lv B).2.1.toNat) else none
theorem wd_nat {B : Nat} (h1 : 1 ≤ B) (h6 : B ≤ 6) : wd (B : Int) = B := by
  unfold wd
  rw [if_neg (by omega), if_neg (by omega)]; omega
theorem dig_lt2 (t l : Int) (B : Nat) : dig t l B < 2 ^ wd B := Nat.mod_lt _ (Nat.two_pow_pos _)
theorem pow_wd (b : Int) : 2 ^ wd b ≤ 64 := by
  have h2 : 2 ^ wd b ≤ 2 ^ 6 := Nat.pow_le_pow_right (by decide) (wd_bd b).2
  omega
theorem crs_of (fr to' : Int) (B : Nat) : Crs fr to' B (crOf fr to' B) := by
  refine ⟨fun lv h => ?_, fun lv lo hi h => ?_⟩
  · unfold crOf at h
    by_cases hb : (crossOf fr to' lv B).2.2 = true
    · rw [if_pos hb] at h; cases h
    · unfold crossOf at hb ⊢
      split at hb
      · rename_i h1; rw [if_pos h1]
      · rename_i h1
        split at hb <;> simp at hb
  · unfold crOf at h
    by_cases hb : (crossOf fr to' lv B).2.2 = true
    · rw [if_pos hb] at h
      simp only [Option.some.injEq, Prod.mk.injEq] at h
      obtain ⟨e1, e2⟩ := h
      have hp := pow_wd (B : Int)
      have hp1 := Nat.two_pow_pos (wd (B : Int))
      have d1 := dig_lt2 fr lv B
      have d2 := dig_lt2 to' lv B
      have key : 0 ≤ (crossOf fr to' lv B).1 ∧ (crossOf fr to' lv B).1 ≤ 64 ∧ 0 ≤ (crossOf fr to' lv B).2.1 ∧ (crossOf fr to' lv B).2.1 ≤ 63 := by
        unfold crossOf
        split
        · simp
        · split
          · simp only; omega
          · simp only; omega
      refine ⟨?_, by omega, by omega⟩
      have e3 : crossOf fr to' lv B = ((crossOf fr to' lv B).1, (crossOf fr to' lv B).2.1, (crossOf fr to' lv B).2.2) := rfl
      rw [e3, hb, ← e1, ← e2]
      rw [Int.toNat_of_nonneg key.1, Int.toNat_of_nonneg key.2.2.1]
    · rw [if_neg hb] at h; cases h
/-- What is due later has a place. -/
theorem placed_of {now due : Int} (h : tm now < tm due) (hB : 1 ≤ B) (hB6 : B ≤ 6) (hS : S = 2 ^ B) (hS1 : 2 ≤ S) : ∃ lv sl, Placed now due L B S lv sl ∧ (lv = L → sl = 0) := by
  obtain ⟨i, hi, e⟩ := topOf_spec now due B
  have hi1 : 1 ≤ i := by
    rcases Nat.eq_zero_or_pos i with h0 | h0
    · subst h0
      have := hi.eq
      rw [Nat.mul_zero, Nat.pow_zero, Nat.div_one, Nat.div_one] at this
      omega
    · exact h0
  by_cases hl : topOf now due B < (L : Int)
  · refine ⟨i - 1, dig due (topOf now due B) B, ⟨?_, by omega, ?_⟩, fun h => by omega⟩
    · unfold placeOf
      rw [if_neg (by omega), if_pos hl]
      have e2 : topOf now due B = ((i - 1 : Nat) : Int) := by omega
      rw [e2]
    · have := dig_lt2 due (topOf now due B) B
      rw [wd_nat hB hB6, ← hS] at this
      exact this
  · refine ⟨L, 0, ⟨?_, Nat.le_refl _, by omega⟩, fun _ => rfl⟩
    unfold placeOf
    rw [if_neg (by omega), if_neg hl]
    rfl
end Go.Proofs.Ytndpkonihcebeaa.Whl
