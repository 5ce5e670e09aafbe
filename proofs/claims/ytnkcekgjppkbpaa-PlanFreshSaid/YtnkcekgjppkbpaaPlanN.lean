/- Plain: which numbers a configuration may have, and where its cells lie. -/
import Derived.Below
import Derived.Lib.Hide
namespace Go.Proofs.Ytnkcekgjppkbpaa.PlanN

/-- From where a number may be. -/
def lo (i : Nat) : Int := if i = 5 ∨ i = 6 ∨ i = 7 ∨ i = 11 ∨ i = 12 then 0 else 1
/-- Up to where. -/
def hi (i : Nat) : Int :=
  if i = 0 then 64 else if i = 1 then 8 else if i = 2 then 6 else if i = 3 then 4096 else if i = 4 then 8192 else if i = 6 then 4294967295 else if i = 7 then 256 else if i = 12 then 31 else 1073741823
def bad (xs : List Int) (i : Nat) : Bool := decide (xs.getD i 0 < lo i) || decide (hi i < xs.getD i 0)
def chkFrom (xs : List Int) : Nat → Nat → Int × Int
  | _, 0 => (0, 0)
  | i, m + 1 => if bad xs i then ((i : Int), 7) else chkFrom xs (i + 1) m
/-- The first number that may not be, and the error. -/
def chk (xs : List Int) : Int × Int := chkFrom xs 0 13
def Rgt (xs : List Int) : Prop := ∀ i, i < 13 → bad xs i = false

theorem chk_stop {xs : List Int} {k : Nat} (hk : k < 13) (hb : bad xs k = true) (h : chkFrom xs k (13 - k) = chk xs) : chk xs = ((k : Int), 7) := by
  rw [← h, show 13 - k = (12 - k) + 1 by omega]
  simp [chkFrom, hb]
theorem chk_on {xs : List Int} {k : Nat} (hk : k < 13) (hb : bad xs k = false) (h : chkFrom xs k (13 - k) = chk xs) : chkFrom xs (k + 1) (13 - (k + 1)) = chk xs := by
  rw [← h, show 13 - k = (13 - (k + 1)) + 1 by omega]
  simp [chkFrom, hb]
theorem chk_end {xs : List Int} (h : chkFrom xs 13 (13 - 13) = chk xs) : chk xs = (0, 0) := by
  rw [← h]; rfl
theorem from_cases (xs : List Int) : ∀ m i, (chkFrom xs i m = (0, 0) ∧ ∀ j, i ≤ j → j < i + m → bad xs j = false) ∨ ∃ j, i ≤ j ∧ j < i + m ∧ bad xs j = true ∧ (∀ k, i ≤ k → k < j → bad xs k = false) ∧ chkFrom xs i m = ((j : Int), 7)
  | 0, i => .inl ⟨rfl, fun j h1 h2 => by omega⟩
  | m + 1, i => by
    by_cases hb : bad xs i = true
    · exact .inr ⟨i, Nat.le_refl _, by omega, hb, fun k h1 h2 => by omega, by simp [chkFrom, hb]⟩
    · have hb' : bad xs i = false := by simpa using hb
      have e : chkFrom xs i (m + 1) = chkFrom xs (i + 1) m := by simp [chkFrom, hb']
      rw [e]
      rcases from_cases xs m (i + 1) with ⟨h1, h2⟩ | ⟨j, h1, h2, h3, h4, h5⟩
      · refine .inl ⟨h1, fun j g1 g2 => ?_⟩
        by_cases hj : j = i
        · rw [hj]; exact hb'
        · exact h2 j (by omega) (by omega)
      · refine .inr ⟨j, by omega, by omega, h3, fun k g1 g2 => ?_, h5⟩
        by_cases hk : k = i
        · rw [hk]; exact hb'
        · exact h4 k (by omega) g2
theorem chk_cases (xs : List Int) : (chk xs = (0, 0) ∧ Rgt xs) ∨ ∃ j, j < 13 ∧ bad xs j = true ∧ (∀ k, k < j → bad xs k = false) ∧ chk xs = ((j : Int), 7) := by
  rcases from_cases xs 13 0 with ⟨h1, h2⟩ | ⟨j, h1, h2, h3, h4, h5⟩
  · exact .inl ⟨h1, fun i hi => h2 i (by omega) (by omega)⟩
  · exact .inr ⟨j, by omega, h3, fun k hk => h4 k (by omega) hk, h5⟩
theorem chk_right {xs : List Int} (h : Rgt xs) : chk xs = (0, 0) := by
  rcases chk_cases xs with ⟨h1, _⟩ | ⟨j, h1, h2, _⟩
  · exact h1
  · rw [h j h1] at h2; cases h2
theorem bad_iff (xs : List Int) (i : Nat) : bad xs i = false ↔ lo i ≤ xs.getD i 0 ∧ xs.getD i 0 ≤ hi i := by
  unfold bad; simp

/-- How many slots a level has. -/
def slots (xs : List Int) : Int := 2 ^ (xs.getD 2 0).toNat
def shard (xs : List Int) : Int := 3 + xs.getD 1 0 * (1 + slots xs)
def nodes (xs : List Int) : Int := 3 + xs.getD 0 0 * shard xs
def tickets (xs : List Int) : Int := nodes xs + 4 * xs.getD 3 0
def conns (xs : List Int) : Int := tickets xs + 3 * xs.getD 4 0
def size (xs : List Int) : Int := conns xs + xs.getD 7 0
structure Rng (xs : List Int) : Prop where
  w : 1 ≤ xs.getD 0 0 ∧ xs.getD 0 0 ≤ 64
  l : 1 ≤ xs.getD 1 0 ∧ xs.getD 1 0 ≤ 8
  b : 1 ≤ xs.getD 2 0 ∧ xs.getD 2 0 ≤ 6
  n : 1 ≤ xs.getD 3 0 ∧ xs.getD 3 0 ≤ 4096
  t : 1 ≤ xs.getD 4 0 ∧ xs.getD 4 0 ≤ 8192
  f : 0 ≤ xs.getD 6 0 ∧ xs.getD 6 0 ≤ 4294967295
  c : 0 ≤ xs.getD 7 0 ∧ xs.getD 7 0 ≤ 256
  s : 2 ≤ slots xs ∧ slots xs ≤ 64
  sh : 6 ≤ shard xs ∧ shard xs ≤ 523
  nd : 9 ≤ nodes xs ∧ nodes xs ≤ 33475
  tk : 13 ≤ tickets xs ∧ tickets xs ≤ 49859
  cn : 16 ≤ conns xs ∧ conns xs ≤ 74435
  sz : 16 ≤ size xs ∧ size xs ≤ 74691
theorem rng {xs : List Int} (h : Rgt xs) : Rng xs := by
  have g : ∀ i, i < 13 → lo i ≤ xs.getD i 0 ∧ xs.getD i 0 ≤ hi i := fun i hi => (bad_iff xs i).1 (h i hi)
  have h0 := g 0 (by omega)
  have h1 := g 1 (by omega)
  have h2 := g 2 (by omega)
  have h3 := g 3 (by omega)
  have h4 := g 4 (by omega)
  have h6 := g 6 (by omega)
  have h7 := g 7 (by omega)
  simp [lo, hi, -List.getD_eq_getElem?_getD] at h0 h1 h2 h3 h4 h6 h7
  have hs : 2 ≤ slots xs ∧ slots xs ≤ 64 := by
    unfold slots
    generalize xs.getD 2 0 = b at h2
    obtain ⟨n, rfl⟩ := Int.eq_ofNat_of_zero_le (by omega : 0 ≤ b)
    have : n = 1 ∨ n = 2 ∨ n = 3 ∨ n = 4 ∨ n = 5 ∨ n = 6 := by omega
    rcases this with rfl | rfl | rfl | rfl | rfl | rfl <;> decide
  have hsh : 6 ≤ shard xs ∧ shard xs ≤ 523 := by
    unfold shard
    generalize xs.getD 1 0 = l at h1
    generalize slots xs = s at hs
    have e1 : 1 * (1 + s) ≤ l * (1 + s) := Int.mul_le_mul_of_nonneg_right h1.1 (by omega)
    have e2 : l * (1 + s) ≤ 8 * (1 + s) := Int.mul_le_mul_of_nonneg_right h1.2 (by omega)
    omega
  have hnd : 9 ≤ nodes xs ∧ nodes xs ≤ 33475 := by
    unfold nodes
    generalize xs.getD 0 0 = l at h0
    generalize shard xs = s at hsh
    have e1 : 1 * s ≤ l * s := Int.mul_le_mul_of_nonneg_right h0.1 (by omega)
    have e2 : l * s ≤ 64 * s := Int.mul_le_mul_of_nonneg_right h0.2 (by omega)
    omega
  have htk : 13 ≤ tickets xs ∧ tickets xs ≤ 49859 := by unfold tickets; omega
  have hcn : 16 ≤ conns xs ∧ conns xs ≤ 74435 := by unfold conns; omega
  have hsz : 16 ≤ size xs ∧ size xs ≤ 74691 := by unfold size; omega
  exact ⟨h0, h1, h2, h3, h4, h6, h7, hs, hsh, hnd, htk, hcn, hsz⟩
end Go.Proofs.Ytnkcekgjppkbpaa.PlanN
