/- Package wheel: what Pass makes of the cells, in plain words. -/
import Derived.Test.YtndpkonihcebeaaPas4
namespace Go.Proofs.Ytndpkonihcebeaa.Whl
open Go.RowKit Go.Proofs.Ytndpkonihcebeaa Go.Proofs.Ytndpkonihcebeaa.Cell Go.Proofs.Ytndpkonihcebeaa.Seq Go.Proofs.Ytndpkonihcebeaa.Num Go.Proofs.Ytndpkonihcebeaa.SetN Go.Proofs.Ytndpkonihcebeaa.Dig Go.Proofs.Ytndpkonihcebeaa.Bits
set_option linter.unusedVariables false
set_option linter.unusedSimpArgs false

theorem mem_upS' (s n : Nat) : ∀ d a, n ∈ upS s a d → (a ≤ n ∧ n < a + d ∧ s.testBit n = true)
  | 0, a, h => by simp [upS] at h
  | d + 1, a, h => by
    unfold upS at h
    by_cases ht : s.testBit a = true
    · rw [if_pos ht] at h
      rcases List.mem_cons.1 h with h | h
      · subst h; exact ⟨Nat.le_refl _, by omega, ht⟩
      · have := mem_upS' s n d (a + 1) h; exact ⟨by omega, by omega, this.2.2⟩
    · rw [if_neg ht] at h
      have := mem_upS' s n d (a + 1) h; exact ⟨by omega, by omega, this.2.2⟩
theorem mem_slots' {s n : Nat} (h : n ∈ slotsOf s) : n < 64 ∧ s.testBit n = true := by
  have := mem_upS' s n 64 0 h
  exact ⟨by omega, this.2.2⟩
/-- What of a set is from one slot to another one. -/
def gone (set lo hi : Nat) : Nat := if lo ≤ hi then btw set lo hi else 0
theorem gone_lt (set lo hi : Nat) : gone set lo hi < 2 ^ 64 := by unfold gone; split; exact btw_lt _ _ _; decide
theorem gone_slot {set lo hi S i : Nat} (hs : set < 2 ^ S) (hh : hi ≤ 63) (h : i ∈ slotsOf (gone set lo hi)) : i < S := by
  have h2 := (mem_slots' h).2
  unfold gone at h2
  by_cases hl : lo ≤ hi
  · rw [if_pos hl, bit_btw hl hh] at h2
    have h3 : set.testBit i = true := by
      simp only [Bool.and_eq_true] at h2
      exact h2.1.1
    apply Nat.lt_of_not_le
    intro hc
    have h4 : set < 2 ^ i := Nat.lt_of_lt_of_le hs (Nat.pow_le_pow_right (by decide) hc)
    rw [Nat.testBit_lt_two_pow h4] at h3
    exact absurd h3 (by decide)
  · rw [if_neg hl] at h2; simp at h2
/-- A set without what is gone. -/
def clr (set g : Nat) : Nat := set &&& (2 ^ 64 - 1 - g)
theorem clr_le (set g : Nat) : clr set g ≤ set := Nat.and_le_left
variable (cr : Nat → Option (Nat × Nat)) (L S : Nat)
/-- The cells of a level's slots. -/
def ats (lv g : Nat) : List Nat := (slotsOf g).map fun i => 1 + L + lv * S + i
/-- What becomes of the cells, the firsts and the count, from a level on. -/
def passR : Nat → Nat → List Int × List Int × Int → List Int × List Int × Int
  | 0, lv, p => match cr lv with
    | none => p
    | some _ => (p.1.set 0 0, if p.1.getD 0 0 = 0 then p.2.1 else p.2.1 ++ [p.1.getD 0 0 - 1], p.2.2 + 1)
  | d + 1, lv, p => match cr lv with
    | none => p
    | some (lo, hi) =>
      if gone (p.1.getD (1 + lv) 0).toNat lo hi = 0 then passR d (lv + 1) (p.1, p.2.1, p.2.2 + 1)
      else passR d (lv + 1) (takeX (ats L S lv (gone (p.1.getD (1 + lv) 0).toNat lo hi)) (p.1.set (1 + lv) (clr (p.1.getD (1 + lv) 0).toNat (gone (p.1.getD (1 + lv) 0).toNat lo hi) : Nat)),
        takeL (ats L S lv (gone (p.1.getD (1 + lv) 0).toNat lo hi)) (p.1.set (1 + lv) (clr (p.1.getD (1 + lv) 0).toNat (gone (p.1.getD (1 + lv) 0).toNat lo hi) : Nat)) p.2.1,
        p.2.2 + 1 + 1 + ((slotsOf (gone (p.1.getD (1 + lv) 0).toNat lo hi)).length : Int))
/-- What the cells are like. -/
structure Good (n : Nat) (xs : List Int) : Prop where
  len : xs.length = n
  maps : ∀ k, k < L → ∃ set : Nat, set < 2 ^ S ∧ xs.getD (1 + k) 0 = (set : Int)
  heads : ∀ i, i = 0 ∨ 1 + L ≤ i → ∃ f : Nat, f ≤ 1000000 ∧ xs.getD i 0 = (f : Int)
variable {cr L S}
theorem getD_set_ne' {xs : List Int} {i j : Nat} {v : Int} (h : i ≠ j) : (xs.set i v).getD j 0 = xs.getD j 0 := by simp [List.getD, List.getElem?_set_ne h]
theorem getD_set_eq' {xs : List Int} {i : Nat} {v : Int} (h : i < xs.length) : (xs.set i v).getD i 0 = v := by simp [List.getD, h]
theorem getD_set_out {xs : List Int} {i : Nat} {v : Int} (h : ¬ i < xs.length) : (xs.set i v).getD i 0 = 0 := by simp [List.getD, h]
theorem Good.head0 {n : Nat} {xs : List Int} (h : Good L S n xs) {i : Nat} (hi : i = 0 ∨ 1 + L ≤ i) : Good L S n (xs.set i 0) :=
  ⟨by rw [List.length_set]; exact h.len, fun k hk => by rw [getD_set_ne' (by omega)]; exact h.maps k hk, fun j hj => by
    by_cases e : i = j
    · subst e
      refine ⟨0, by omega, ?_⟩
      by_cases hl : i < xs.length
      · rw [getD_set_eq' hl]; rfl
      · rw [getD_set_out hl]; rfl
    · rw [getD_set_ne' e]; exact h.heads j hj⟩
theorem Good.map {n : Nat} {xs : List Int} (h : Good L S n xs) {k set : Nat} (hk : k < L) (hs : set < 2 ^ S) (hn : 1 + k < n) : Good L S n (xs.set (1 + k) (set : Int)) :=
  ⟨by rw [List.length_set]; exact h.len, fun j hj => by
    by_cases e : 1 + k = 1 + j
    · rw [← e, getD_set_eq' (by rw [h.len]; exact hn)]; exact ⟨set, hs, rfl⟩
    · rw [getD_set_ne' e]; exact h.maps j hj, fun j hj => by rw [getD_set_ne' (by omega)]; exact h.heads j hj⟩
theorem Good.take {n : Nat} : ∀ (l : List Nat) {xs : List Int}, Good L S n xs → (∀ i ∈ l, i = 0 ∨ 1 + L ≤ i) → Good L S n (takeX l xs)
  | [], xs, h, _ => h
  | i :: r, xs, h, hi => by rw [takeX]; exact Good.take r (h.head0 (hi i List.mem_cons_self)) fun j hj => hi j (List.mem_cons_of_mem _ hj)
theorem ats_ge {lv g i : Nat} (h : i ∈ ats L S lv g) : i = 0 ∨ 1 + L ≤ i := by
  unfold ats at h
  obtain ⟨j, _, rfl⟩ := List.mem_map.1 h
  right; omega
end Go.Proofs.Ytndpkonihcebeaa.Whl
