/- Plain facts on numbers: what Go's bit operations on 64 bits come to, and times as digits. No program in sight. -/
import Derived.Laws.BitsLemmas
import Derived.Laws.Bits64
import Derived.RowKit
import Derived.IntWalk
namespace Go.Proofs.Ytndpkonihcebeaa.Num
open Go Go.RowKit

theorem bits_and (a b : Nat) (ha : a < 2 ^ 64) (hb : b < 2 ^ 64) : Go.bits .and .u64 (a : Int) (b : Int) = ((a &&& b : Nat) : Int) := by
  have h1 : (BitVec.ofInt 64 (a : Int)).toNat = a := by
    rw [BitVec.ofInt_natCast, BitVec.toNat_ofNat]; exact Nat.mod_eq_of_lt ha
  have h2 : (BitVec.ofInt 64 (b : Int)).toNat = b := by
    rw [BitVec.ofInt_natCast, BitVec.toNat_ofNat]; exact Nat.mod_eq_of_lt hb
  have hx : a &&& b < 2 ^ 64 := Nat.and_lt_two_pow _ hb
  show IntKind.u64.wrap ((BitVec.ofInt 64 (a : Int) &&& BitVec.ofInt 64 (b : Int)).toNat : Int) = _
  rw [BitVec.toNat_and, h1, h2, IntKind.wrap_u64]
  omega

theorem bits_or (a b : Nat) (ha : a < 2 ^ 64) (hb : b < 2 ^ 64) : Go.bits .or .u64 (a : Int) (b : Int) = ((a ||| b : Nat) : Int) := by
  have h1 : (BitVec.ofInt 64 (a : Int)).toNat = a := by
    rw [BitVec.ofInt_natCast, BitVec.toNat_ofNat]; exact Nat.mod_eq_of_lt ha
  have h2 : (BitVec.ofInt 64 (b : Int)).toNat = b := by
    rw [BitVec.ofInt_natCast, BitVec.toNat_ofNat]; exact Nat.mod_eq_of_lt hb
  have hx : a ||| b < 2 ^ 64 := Nat.or_lt_two_pow ha hb
  show IntKind.u64.wrap ((BitVec.ofInt 64 (a : Int) ||| BitVec.ofInt 64 (b : Int)).toNat : Int) = _
  rw [BitVec.toNat_or, h1, h2, IntKind.wrap_u64]
  omega

theorem bits_xor (a b : Nat) (ha : a < 2 ^ 64) (hb : b < 2 ^ 64) : Go.bits .xor .u64 (a : Int) (b : Int) = ((a ^^^ b : Nat) : Int) :=
  bits_xor_u64_nat a b ha hb

theorem bits_andNot (a b : Nat) (ha : a < 2 ^ 64) (hb : b < 2 ^ 64) : Go.bits .andNot .u64 (a : Int) (b : Int) = ((a &&& (2 ^ 64 - 1 - b) : Nat) : Int) := by
  have h1 : (BitVec.ofInt 64 (a : Int)).toNat = a := by
    rw [BitVec.ofInt_natCast, BitVec.toNat_ofNat]; exact Nat.mod_eq_of_lt ha
  have h2 : (BitVec.ofInt 64 (b : Int)).toNat = b := by
    rw [BitVec.ofInt_natCast, BitVec.toNat_ofNat]; exact Nat.mod_eq_of_lt hb
  have hx : a &&& (2 ^ 64 - 1 - b) < 2 ^ 64 := Nat.and_lt_two_pow _ (by omega)
  show IntKind.u64.wrap ((BitVec.ofInt 64 (a : Int) &&& ~~~BitVec.ofInt 64 (b : Int)).toNat : Int) = _
  rw [BitVec.toNat_and, BitVec.toNat_not, h1, h2, IntKind.wrap_u64]
  omega

/-- A number's time. -/
def tm (t : Int) : Nat := if t < 0 then 0 else if 4294967295 < t then 4294967295 else t.toNat
def wd (b : Int) : Nat := if b < 1 then 1 else if 6 < b then 6 else b.toNat
def lv (l : Int) : Nat := if l < 0 then 0 else if 64 < l then 64 else l.toNat
def sh (l b : Int) : Nat := lv l * wd b

theorem tm_lt (t : Int) : tm t < 4294967296 := by unfold tm; split <;> (try split) <;> omega
theorem wd_bd (b : Int) : 1 ≤ wd b ∧ wd b ≤ 6 := by unfold wd; split <;> (try split) <;> omega
theorem lv_bd (l : Int) : lv l ≤ 64 := by unfold lv; split <;> (try split) <;> omega
theorem sh_bd (l b : Int) : sh l b ≤ 384 := by
  have h1 := lv_bd l; have h2 := wd_bd b
  unfold sh; exact Nat.mul_le_mul h1 h2.2
theorem tm_of {t : Int} (h0 : 0 ≤ t) (h : t < 4294967296) : (tm t : Int) = t := by unfold tm; rw [if_neg (by omega), if_neg (by omega)]; omega
theorem tm_nat (n : Nat) (h : n < 4294967296) : tm (n : Int) = n := by have := tm_of (t := (n : Int)) (by omega) (by omega); omega
theorem wd_nat (n : Nat) (h : 1 ≤ n) (h' : n ≤ 6) : wd (n : Int) = n := by unfold wd; rw [if_neg (by omega), if_neg (by omega)]; omega
theorem lv_nat (n : Nat) (h : n ≤ 64) : lv (n : Int) = n := by unfold lv; rw [if_neg (by omega), if_neg (by omega)]; omega

def dig (t l b : Int) : Nat := tm t / 2 ^ sh l b % 2 ^ wd b
def flo (t l b : Int) : Nat := tm t / 2 ^ sh l b * 2 ^ sh l b

/-- Beyond 64 bits nothing is left. -/
theorem div_far {x s : Nat} (hx : x < 2 ^ 64) : x / 2 ^ min s 64 = x / 2 ^ s := by
  by_cases h : s ≤ 64
  · rw [Nat.min_eq_left h]
  · rw [Nat.min_eq_right (by omega), Nat.div_eq_of_lt hx, Nat.div_eq_of_lt (Nat.lt_of_lt_of_le hx (Nat.pow_le_pow_right (by decide) (by omega)))]

/-- How many digits of w bits a number has, as what is left of it tells it. -/
structure Len (w x i : Nat) : Prop where
  none : x / 2 ^ (w * i) = 0
  some : ∀ j, j < i → x / 2 ^ (w * j) ≠ 0

theorem Len.unique {w x i j : Nat} (h : Len w x i) (h' : Len w x j) : i = j := by
  rcases Nat.lt_trichotomy i j with hl | hl | hl
  · exact absurd h.none (h'.some i hl)
  · exact hl
  · exact absurd h'.none (h.some j hl)

theorem Len.zero (w : Nat) : Len w 0 0 := ⟨by simp, fun j hj => by omega⟩

theorem Len.succ {w x i : Nat} (hx : x ≠ 0) (h : Len w (x / 2 ^ w) i) : Len w x (i + 1) := by
  have key : ∀ j, x / 2 ^ (w * (j + 1)) = x / 2 ^ w / 2 ^ (w * j) := fun j => by
    rw [Nat.div_div_eq_div_mul, ← Nat.pow_add]; congr 2; rw [Nat.mul_add, Nat.mul_one, Nat.add_comm]
  refine ⟨by rw [key]; exact h.none, fun j hj => ?_⟩
  cases j with
  | zero => simpa using hx
  | succ j => rw [key]; exact h.some j (by omega)

theorem Len.le {w x i : Nat} (hw : 1 ≤ w) (hx : x < 4294967296) (h : Len w x i) : i ≤ 32 := by
  rcases Nat.lt_or_ge 32 i with hl | hl
  · exfalso
    refine h.some 32 hl (Nat.div_eq_of_lt (Nat.lt_of_lt_of_le hx ?_))
    exact Nat.le_trans (show 4294967296 ≤ 2 ^ 32 by decide) (Nat.pow_le_pow_right (by decide) (Nat.le_mul_of_pos_left 32 hw))
  · exact hl

theorem Len.exists {w : Nat} (hw : 1 ≤ w) : ∀ x, ∃ i, Len w x i := fun x => by
  induction x using Nat.strongRecOn with
  | ind x ih =>
    by_cases hx : x = 0
    · subst hx; exact ⟨0, Len.zero w⟩
    · obtain ⟨i, hi⟩ := ih (x / 2 ^ w) (Nat.div_lt_self (by omega) (Nat.lt_of_lt_of_le (by decide) (Nat.pow_le_pow_right (n := 2) (by decide) hw)))
      exact ⟨i + 1, hi.succ hx⟩

theorem xor_div (a b s : Nat) : (a ^^^ b) / 2 ^ s = (a / 2 ^ s) ^^^ (b / 2 ^ s) := by
  rw [← Nat.shiftRight_eq_div_pow, ← Nat.shiftRight_eq_div_pow, ← Nat.shiftRight_eq_div_pow, Nat.shiftRight_xor_distrib]
theorem xor_zero_iff (a b : Nat) : a ^^^ b = 0 ↔ a = b := by
  constructor
  · intro h
    have : (a ^^^ b) ^^^ b = 0 ^^^ b := by rw [h]
    rw [Nat.xor_assoc, Nat.xor_self] at this
    simpa using this
  · rintro rfl; exact Nat.xor_self a
theorem xor_div_zero (a b s : Nat) : (a ^^^ b) / 2 ^ s = 0 ↔ a / 2 ^ s = b / 2 ^ s := by rw [xor_div]; exact xor_zero_iff _ _

/-- Where two numbers differ at the highest: at digit i - 1; i = 0: nowhere. -/
structure Top (w a b i : Nat) : Prop where
  eq : a / 2 ^ (w * i) = b / 2 ^ (w * i)
  ne : ∀ j, j < i → a / 2 ^ (w * j) ≠ b / 2 ^ (w * j)
theorem Top.of_len {w a b i : Nat} (h : Len w (a ^^^ b) i) : Top w a b i :=
  ⟨(xor_div_zero _ _ _).1 h.none, fun j hj e => h.some j hj ((xor_div_zero _ _ _).2 e)⟩
theorem Top.to_len {w a b i : Nat} (h : Top w a b i) : Len w (a ^^^ b) i :=
  ⟨(xor_div_zero _ _ _).2 h.eq, fun j hj e => h.ne j hj ((xor_div_zero _ _ _).1 e)⟩
theorem Top.unique {w a b i j : Nat} (h : Top w a b i) (h' : Top w a b j) : i = j := h.to_len.unique h'.to_len
theorem Top.symm {w a b i : Nat} (h : Top w a b i) : Top w b a i := ⟨h.eq.symm, fun j hj e => h.ne j hj e.symm⟩
theorem Top.exists {w : Nat} (hw : 1 ≤ w) (a b : Nat) : ∃ i, Top w a b i := let ⟨i, h⟩ := Len.exists hw (a ^^^ b); ⟨i, Top.of_len h⟩
theorem Top.le {w a b i : Nat} (hw : 1 ≤ w) (ha : a < 4294967296) (hb : b < 4294967296) (h : Top w a b i) : i ≤ 32 :=
  h.to_len.le hw (by have := Nat.xor_lt_two_pow (n := 32) ha hb; simpa using this)
theorem Top.zero_iff {w a b i : Nat} (h : Top w a b i) : i = 0 ↔ a = b := by
  constructor
  · rintro rfl; simpa using h.eq
  · rintro rfl
    rcases Nat.eq_zero_or_pos i with h0 | h0
    · exact h0
    · exact absurd rfl (h.ne 0 h0)
/-- Equal above a place means equal above all higher ones. -/
theorem eq_up {w a b i j : Nat} (h : a / 2 ^ (w * i) = b / 2 ^ (w * i)) (hij : i ≤ j) : a / 2 ^ (w * j) = b / 2 ^ (w * j) := by
  obtain ⟨d, rfl⟩ : ∃ d, j = i + d := ⟨j - i, by omega⟩
  have key : ∀ x, x / 2 ^ (w * (i + d)) = x / 2 ^ (w * i) / 2 ^ (w * d) := fun x => by
    rw [Nat.div_div_eq_div_mul, ← Nat.pow_add, Nat.mul_add]
  rw [key, key, h]
theorem Top.of {w a b i : Nat} (h : a / 2 ^ (w * i) = b / 2 ^ (w * i)) (h' : i ≠ 0 → a / 2 ^ (w * (i - 1)) ≠ b / 2 ^ (w * (i - 1))) : Top w a b i :=
  ⟨h, fun j hj e => h' (by omega) (eq_up e (by omega))⟩
/-- What is left above a level is a digit and what is left above the next one. -/
theorem split (w a k : Nat) : a / 2 ^ (w * k) = a / 2 ^ (w * (k + 1)) * 2 ^ w + a / 2 ^ (w * k) % 2 ^ w := by
  have key : a / 2 ^ (w * (k + 1)) = a / 2 ^ (w * k) / 2 ^ w := by
    rw [Nat.div_div_eq_div_mul, ← Nat.pow_add, Nat.mul_add, Nat.mul_one]
  rw [key, Nat.mul_comm (a / 2 ^ (w * k) / 2 ^ w)]
  exact (Nat.div_add_mod (a / 2 ^ (w * k)) (2 ^ w)).symm
/-- Of two numbers the greater has the greater digit where they differ at the highest. -/
theorem Top.order {w a b k : Nat} (h : Top w a b (k + 1)) : a < b ↔ a / 2 ^ (w * k) % 2 ^ w < b / 2 ^ (w * k) % 2 ^ w := by
  have ha := split w a k
  have hb := split w b k
  have hne := h.ne k (by omega)
  rw [h.eq] at ha
  have hlt : a / 2 ^ (w * k) < b / 2 ^ (w * k) ↔ a / 2 ^ (w * k) % 2 ^ w < b / 2 ^ (w * k) % 2 ^ w := by omega
  rw [← hlt]
  constructor
  · intro h1
    have := Nat.div_le_div_right (c := 2 ^ (w * k)) (Nat.le_of_lt h1)
    omega
  · intro h1
    rcases Nat.lt_or_ge a b with h2 | h2
    · exact h2
    · have := Nat.div_le_div_right (c := 2 ^ (w * k)) h2
      omega

end Go.Proofs.Ytndpkonihcebeaa.Num
