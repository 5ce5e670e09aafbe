/- Parts of words, in plain numbers: what is read, what a part that is put leaves, numbers laid one below the other. -/
import Derived.Test.YtnkcekgjppkbpaaNum
namespace Go.Proofs.Ytnkcekgjppkbpaa.Num
open Go Go.RowKit

def getN (w s n : Nat) : Nat := w / 2 ^ s % 2 ^ n
def putN (w s n v : Nat) : Nat := 2 ^ s * (2 ^ n * (w / 2 ^ s / 2 ^ n) + v) + w % 2 ^ s

theorem mask_div : ∀ n : Fin 65, (2 ^ 64 - 1) / 2 ^ (64 - n.val) = 2 ^ n.val - 1 := by decide
theorem mask_int (n : Nat) (h : n ≤ 64) : (18446744073709551615 : Int) / 2 ^ (64 - n) = ((2 ^ n - 1 : Nat) : Int) := by
  have := mask_div ⟨n, by omega⟩
  simp only at this
  rw [← this]
  simp
theorem pow_le64 {n : Nat} (h : n ≤ 64) : 2 ^ n ≤ 18446744073709551616 := Nat.le_trans (Nat.pow_le_pow_right (n := 2) (by decide) h) (by decide)

theorem put_bits (w s n v : Nat) (hw : w < 2 ^ 64) (hsn : s + n ≤ 64) (hv : v < 2 ^ n) :
    (w &&& (2 ^ 64 - 1 - (2 ^ n - 1) * 2 ^ s)) ||| v * 2 ^ s = putN w s n v := by
  have hM : (2 ^ n - 1) * 2 ^ s < 2 ^ 64 := by
    have h1 : 2 ^ (s + n) ≤ 2 ^ 64 := Nat.pow_le_pow_right (by decide) hsn
    rw [Nat.pow_add, Nat.mul_comm] at h1
    have h2 : 0 < 2 ^ s := Nat.two_pow_pos s
    have h3 : (2 ^ n - 1) * 2 ^ s < 2 ^ n * 2 ^ s := Nat.mul_lt_mul_of_pos_right (Nat.sub_lt (Nat.two_pow_pos n) (by decide)) h2
    omega
  apply Nat.eq_of_testBit_eq
  intro i
  have hlo := Nat.mod_lt w (Nat.two_pow_pos s)
  have e1 : 2 ^ 64 - 1 - (2 ^ n - 1) * 2 ^ s = 2 ^ 64 - ((2 ^ n - 1) * 2 ^ s + 1) := by omega
  unfold putN
  rw [Nat.testBit_or, Nat.testBit_and, e1, Nat.testBit_two_pow_sub_succ hM, Nat.testBit_two_pow_mul_add _ hlo]
  have hs0 : 0 < 2 ^ s := Nat.two_pow_pos s
  have e2 : ((2 ^ n - 1) * 2 ^ s).testBit i = if i < s then false else decide (i - s < n) := by
    have := Nat.testBit_two_pow_mul_add (2 ^ n - 1) hs0 i
    rw [Nat.add_zero, Nat.mul_comm, Nat.zero_testBit, Nat.testBit_two_pow_sub_one] at this
    exact this
  have e3 : (v * 2 ^ s).testBit i = if i < s then false else v.testBit (i - s) := by
    have := Nat.testBit_two_pow_mul_add v hs0 i
    rw [Nat.add_zero, Nat.mul_comm, Nat.zero_testBit] at this
    exact this
  rw [e2, e3]
  by_cases hi : i < s
  · rw [if_pos hi, if_pos hi, if_pos hi, Nat.testBit_mod_two_pow]
    have : i < 64 := by omega
    simp [this, hi]
  · rw [if_neg hi, if_neg hi, if_neg hi, Nat.testBit_two_pow_mul_add _ hv]
    by_cases hn : i - s < n
    · rw [if_pos hn]; simp [hn]
    · rw [if_neg hn, Nat.testBit_div_two_pow, Nat.testBit_div_two_pow, show i - s - n + n + s = i by omega]
      have hvf : v.testBit (i - s) = false := Nat.testBit_lt_two_pow (Nat.lt_of_lt_of_le hv (Nat.pow_le_pow_right (by decide) (by omega)))
      rw [hvf]
      by_cases h64 : i < 64
      · simp [hn, h64]
      · have : w.testBit i = false := Nat.testBit_lt_two_pow (Nat.lt_of_lt_of_le hw (Nat.pow_le_pow_right (by decide) (by omega)))
        simp [this]

theorem decompose (w s n : Nat) : w = 2 ^ s * (2 ^ n * (w / 2 ^ s / 2 ^ n) + getN w s n) + w % 2 ^ s := by
  unfold getN
  rw [Nat.div_add_mod (w / 2 ^ s) (2 ^ n), Nat.div_add_mod w (2 ^ s)]
theorem putN_sub (w s n v : Nat) : putN w s n v = w - getN w s n * 2 ^ s + v * 2 ^ s := by
  have h := decompose w s n
  unfold putN
  generalize 2 ^ n * (w / 2 ^ s / 2 ^ n) = A at h ⊢
  generalize getN w s n = B at h ⊢
  generalize w % 2 ^ s = C at h ⊢
  rw [Nat.mul_add] at h ⊢
  rw [Nat.mul_comm B, Nat.mul_comm v]
  generalize 2 ^ s * A = a at h ⊢
  generalize 2 ^ s * B = b at h ⊢
  generalize 2 ^ s * v = c at h ⊢
  omega
theorem getN_le (w s n : Nat) : getN w s n * 2 ^ s ≤ w := Nat.le_trans (Nat.mul_le_mul_right _ (Nat.mod_le _ _)) (Nat.div_mul_le_self _ _)
theorem putN_lt (w s n v : Nat) (hw : w < 2 ^ 64) (hsn : s + n ≤ 64) (hv : v < 2 ^ n) : putN w s n v < 2 ^ 64 := by
  rw [← put_bits w s n v hw hsn hv]
  refine Nat.or_lt_two_pow (Nat.lt_of_le_of_lt Nat.and_le_left hw) ?_
  have h1 : v * 2 ^ s < 2 ^ n * 2 ^ s := Nat.mul_lt_mul_of_pos_right hv (Nat.two_pow_pos s)
  have h2 : 2 ^ (s + n) ≤ 2 ^ 64 := Nat.pow_le_pow_right (by decide) hsn
  rw [Nat.pow_add, Nat.mul_comm] at h2
  omega
theorem getN_lt (w s n : Nat) : getN w s n < 2 ^ n := Nat.mod_lt _ (Nat.two_pow_pos n)
/-- What stands there is what was put. -/
theorem get_put (w s n v : Nat) (hv : v < 2 ^ n) : getN (putN w s n v) s n = v := by
  have hlo := Nat.mod_lt w (Nat.two_pow_pos s)
  unfold getN putN
  rw [Nat.mul_add_div (Nat.two_pow_pos s), Nat.div_eq_of_lt hlo, Nat.add_zero, Nat.mul_add_mod, Nat.mod_eq_of_lt hv]
theorem putN_div (w s n v : Nat) : putN w s n v / 2 ^ s = 2 ^ n * (w / 2 ^ s / 2 ^ n) + v := by
  have hlo := Nat.mod_lt w (Nat.two_pow_pos s)
  unfold putN
  rw [Nat.mul_add_div (Nat.two_pow_pos s), Nat.div_eq_of_lt hlo, Nat.add_zero]
theorem putN_mod (w s n v : Nat) : putN w s n v % 2 ^ s = w % 2 ^ s := by
  unfold putN
  rw [Nat.mul_add_mod, Nat.mod_mod]
theorem putN_high (w s n v : Nat) (hv : v < 2 ^ n) : putN w s n v / 2 ^ (s + n) = w / 2 ^ (s + n) := by
  rw [Nat.pow_add, ← Nat.div_div_eq_div_mul, ← Nat.div_div_eq_div_mul, putN_div, Nat.mul_add_div (Nat.two_pow_pos n), Nat.div_eq_of_lt hv, Nat.add_zero]

/-- Where a part is tested against a mask. -/
theorem andNot_mask (v n : Nat) (hv : v < 2 ^ 64) (hn : n ≤ 64) : v &&& (2 ^ 64 - 1 - (2 ^ n - 1)) = v / 2 ^ n * 2 ^ n := by
  have h := put_bits v 0 n 0 hv (by omega) (Nat.two_pow_pos n)
  simp only [Nat.pow_zero, Nat.mul_one, Nat.or_zero, putN, Nat.div_one, Nat.one_mul, Nat.mod_one, Nat.add_zero] at h
  rw [h, Nat.mul_comm]
theorem andNot_zero_iff (v n : Nat) (hv : v < 2 ^ 64) (hn : n ≤ 64) : v &&& (2 ^ 64 - 1 - (2 ^ n - 1)) = 0 ↔ v < 2 ^ n := by
  rw [andNot_mask v n hv hn]
  constructor
  · intro h
    rcases Nat.mul_eq_zero.1 h with h | h
    · have h1 := Nat.div_add_mod v (2 ^ n)
      rw [h, Nat.mul_zero, Nat.zero_add] at h1
      rw [← h1]; exact Nat.mod_lt _ (Nat.two_pow_pos n)
    · have := Nat.two_pow_pos n; omega
  · intro h
    rw [Nat.div_eq_of_lt h, Nat.zero_mul]

/-- Numbers laid one below the other, from a place on: what is to be added; none: one of them does not go in. -/
def laid : List (Nat × Int) → Nat → Option Nat
  | [], _ => some 0
  | (n, x) :: r, s => if 0 ≤ x ∧ x < 2 ^ n then (laid r (s - n)).map (· + x.toNat * 2 ^ (s - n)) else none

theorem or_add {acc s x n : Nat} (ha : acc % 2 ^ s = 0) (hx : x < 2 ^ n) (hn : n ≤ s) : acc ||| x * 2 ^ (s - n) = acc + x * 2 ^ (s - n) := by
  have h1 : x * 2 ^ (s - n) < 2 ^ s := by
    have : 2 ^ s = 2 ^ n * 2 ^ (s - n) := by rw [← Nat.pow_add]; congr 1; omega
    rw [this]; exact Nat.mul_lt_mul_of_pos_right hx (Nat.two_pow_pos _)
  have h2 : acc = 2 ^ s * (acc / 2 ^ s) := by have := Nat.div_add_mod acc (2 ^ s); omega
  rw [h2, ← Nat.two_pow_add_eq_or_of_lt h1]
theorem acc_mod {acc s x n : Nat} (ha : acc % 2 ^ s = 0) (hn : n ≤ s) : (acc + x * 2 ^ (s - n)) % 2 ^ (s - n) = 0 := by
  have h2 : acc = 2 ^ s * (acc / 2 ^ s) := by have := Nat.div_add_mod acc (2 ^ s); omega
  have : 2 ^ s = 2 ^ (s - n) * 2 ^ n := by rw [← Nat.pow_add]; congr 1; omega
  rw [h2, this, Nat.mul_assoc, Nat.mul_comm x, ← Nat.mul_add, Nat.mul_mod_right]
theorem acc_lt {acc s x n : Nat} (ha : acc % 2 ^ s = 0) (hl : acc < 2 ^ 64) (hx : x < 2 ^ n) (hn : n ≤ s) (hs : s ≤ 64) : acc + x * 2 ^ (s - n) < 2 ^ 64 := by
  rw [← or_add ha hx hn]
  refine Nat.or_lt_two_pow hl ?_
  have h1 : x * 2 ^ (s - n) < 2 ^ n * 2 ^ (s - n) := Nat.mul_lt_mul_of_pos_right hx (Nat.two_pow_pos _)
  rw [← Nat.pow_add, show n + (s - n) = s by omega] at h1
  exact Nat.lt_of_lt_of_le h1 (Nat.pow_le_pow_right (by decide) hs)


theorem laid_lt : ∀ (ps : List (Nat × Int)) (s x : Nat), (ps.map (·.1)).sum ≤ s → laid ps s = some x → x < 2 ^ s
  | [], s, x, _, h => by simp [laid] at h; subst h; exact Nat.two_pow_pos s
  | (n, v) :: r, s, x, hs, h => by
    simp only [List.map_cons, List.sum_cons] at hs
    rw [laid] at h
    by_cases hv : 0 ≤ v ∧ v < 2 ^ n
    · rw [if_pos hv] at h
      cases hr : laid r (s - n) with
      | none => rw [hr] at h; simp at h
      | some y =>
        rw [hr] at h
        simp only [Option.map_some, Option.some.injEq] at h
        have hy := laid_lt r (s - n) y (by omega) hr
        have hvn : v.toNat < 2 ^ n := by
          have h1 : ((2 ^ n : Nat) : Int) = 2 ^ n := by simp
          omega
        have h2 : 2 ^ s = 2 ^ n * 2 ^ (s - n) := by rw [← Nat.pow_add]; congr 1; omega
        have h3 : (v.toNat + 1) * 2 ^ (s - n) ≤ 2 ^ n * 2 ^ (s - n) := Nat.mul_le_mul_right _ hvn
        rw [Nat.add_mul, Nat.one_mul] at h3
        omega
    · rw [if_neg hv] at h; simp at h
theorem laid_inj : ∀ (ps qs : List (Nat × Int)) (s x : Nat), ps.map (·.1) = qs.map (·.1) → (ps.map (·.1)).sum ≤ s → laid ps s = some x → laid qs s = some x → ps = qs
  | [], [], _, _, _, _, _, _ => rfl
  | [], _ :: _, _, _, h, _, _, _ => by simp at h
  | _ :: _, [], _, _, h, _, _, _ => by simp at h
  | (n, v) :: r, (m, u) :: q, s, x, hw, hs, h1, h2 => by
    simp only [List.map_cons, List.cons.injEq] at hw
    obtain ⟨rfl, hw⟩ := hw
    simp only [List.map_cons, List.sum_cons] at hs
    rw [laid] at h1 h2
    by_cases hv : 0 ≤ v ∧ v < 2 ^ n
    · by_cases hu : 0 ≤ u ∧ u < 2 ^ n
      · rw [if_pos hv] at h1
        rw [if_pos hu] at h2
        cases hr : laid r (s - n) with
        | none => rw [hr] at h1; simp at h1
        | some y =>
          cases hq : laid q (s - n) with
          | none => rw [hq] at h2; simp at h2
          | some z =>
            rw [hr] at h1
            rw [hq] at h2
            simp only [Option.map_some, Option.some.injEq] at h1 h2
            have hy := laid_lt r (s - n) y (by omega) hr
            have hz := laid_lt q (s - n) z (by rw [← hw]; omega) hq
            have e1 : x / 2 ^ (s - n) = v.toNat := by rw [← h1, Nat.add_mul_div_right _ _ (Nat.two_pow_pos _), Nat.div_eq_of_lt hy, Nat.zero_add]
            have e2 : x / 2 ^ (s - n) = u.toNat := by rw [← h2, Nat.add_mul_div_right _ _ (Nat.two_pow_pos _), Nat.div_eq_of_lt hz, Nat.zero_add]
            have e3 : v = u := by omega
            subst e3
            have e4 : y = z := by omega
            subst e4
            rw [laid_inj r q (s - n) y hw (by omega) hr hq]
      · rw [if_neg hu] at h2; simp at h2
    · rw [if_neg hv] at h1; simp at h1
end Go.Proofs.Ytnkcekgjppkbpaa.Num
