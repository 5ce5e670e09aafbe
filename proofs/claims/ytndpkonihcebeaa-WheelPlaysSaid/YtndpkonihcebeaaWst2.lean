/- Package wheel, in plain words: how many tickets there are; what stays behind a Pass. -/
import Derived.Test.YtndpkonihcebeaaLw10
namespace Go.Proofs.Ytndpkonihcebeaa.Whl
open Go.RowKit Go.Proofs.Ytndpkonihcebeaa Go.Proofs.Ytndpkonihcebeaa.Cell Go.Proofs.Ytndpkonihcebeaa.Seq Go.Proofs.Ytndpkonihcebeaa.Num Go.Proofs.Ytndpkonihcebeaa.SetN Go.Proofs.Ytndpkonihcebeaa.Dig Go.Proofs.Ytndpkonihcebeaa.Bits
set_option linter.unusedVariables false
set_option linter.unusedSimpArgs false
variable {L S N : Nat}

theorem range_len_congr {α β : Type} {f : Nat → List α} {g : Nat → List β} : ∀ n, (∀ i, i < n → (f i).length = (g i).length) → ((List.range n).flatMap f).length = ((List.range n).flatMap g).length
  | 0, _ => rfl
  | n + 1, h => by
    rw [List.range_succ, List.flatMap_append, List.flatMap_append, List.length_append, List.length_append, range_len_congr n fun i hi => h i (by omega)]
    simp [h n (by omega)]
theorem range_len_one {α : Type} {f g : Nat → List α} {k : Nat} : ∀ n, k < n → (g k).length = (f k).length + 1 → (∀ i, i ≠ k → (g i).length = (f i).length) → ((List.range n).flatMap g).length = ((List.range n).flatMap f).length + 1
  | 0, h, _, _ => by omega
  | n + 1, h, h1, h2 => by
    rw [List.range_succ, List.flatMap_append, List.flatMap_append, List.length_append, List.length_append]
    simp only [List.flatMap_cons, List.flatMap_nil, List.append_nil]
    by_cases e : k = n
    · subst e
      rw [h1, range_len_congr k fun i hi => h2 i (by omega)]; omega
    · rw [h2 n (fun c => e c.symm), range_len_one n (by omega) h1 h2]; omega
theorem range_len_add {α β γ : Type} {f : Nat → List α} {g : Nat → List β} {h : Nat → List γ} : ∀ n, (∀ i, i < n → (f i).length = (g i).length + (h i).length) → ((List.range n).flatMap f).length = ((List.range n).flatMap g).length + ((List.range n).flatMap h).length
  | 0, _ => rfl
  | n + 1, e => by
    rw [List.range_succ, List.flatMap_append, List.flatMap_append, List.flatMap_append, List.length_append, List.length_append, List.length_append, range_len_add n fun i hi => e i (by omega)]
    simp only [List.flatMap_cons, List.flatMap_nil, List.append_nil]
    rw [e n (by omega)]; omega
/-- A ticket more is one more. -/
theorem listOf_ins {t lv0 sl0 : Nat} {chs : Nat → Nat → List Nat} (hv : Val L S lv0 sl0) : (listOf L S (insCh t lv0 sl0 chs)).length = (listOf L S chs).length + 1 := by
  have one : ∀ a b, (insCh t lv0 sl0 chs a b).length = (chs a b).length + (if a = lv0 ∧ b = sl0 then 1 else 0) := fun a b => by
    unfold insCh; split <;> simp
  unfold listOf
  rw [List.length_append, List.length_append, List.length_map, List.length_map, one]
  by_cases hl : lv0 = L
  · have hs := hv.2.2 hl
    subst hl hs
    rw [if_pos ⟨rfl, rfl⟩]
    have e : (upTo S (insCh t lv0 0 chs) lv0).length = (upTo S chs lv0).length := by
      unfold upTo
      refine range_len_congr lv0 fun a ha => ?_
      unfold slotsUp
      refine range_len_congr S fun b hb => ?_
      rw [List.length_map, List.length_map, one, if_neg (fun c => by omega)]; rfl
    omega
  · rw [if_neg (fun c => hl c.1.symm)]
    have e : (upTo S (insCh t lv0 sl0 chs) L).length = (upTo S chs L).length + 1 := by
      unfold upTo
      refine range_len_one (k := lv0) L (by have := hv.1; omega) ?_ (fun a ha => ?_)
      · unfold slotsUp
        refine range_len_one (k := sl0) S hv.2.1 ?_ (fun b hb => ?_)
        · rw [List.length_map, List.length_map, one, if_pos ⟨rfl, rfl⟩]
        · rw [List.length_map, List.length_map, one, if_neg (fun c => hb c.2)]; rfl
      · unfold slotsUp
        refine range_len_congr S fun b hb => ?_
        rw [List.length_map, List.length_map, one, if_neg (fun c => ha c.1)]; rfl
    omega
theorem listOf_empty : listOf L S (fun _ _ => []) = [] := by
  unfold listOf upTo slotsUp
  simp
/-- Is a list passed, from a level on? -/
def ps (cr : Nat → Option (Nat × Nat)) (L lv a b : Nat) : Prop := (∀ j, lv ≤ j → j ≤ a → cr j ≠ none) ∧ ∃ lo hi, cr a = some (lo, hi) ∧ (a = L ∨ (lo ≤ b ∧ b ≤ hi))
open Classical in
theorem passCh_eq {cr : Nat → Option (Nat × Nat)} : ∀ d lv (chs : Nat → Nat → List Nat), lv + d = L → ∀ a b, Val L S a b → passCh cr d lv chs a b = if lv ≤ a ∧ ps cr L lv a b then [] else chs a b
  | 0, lv, chs, hd, a, b, hv => by
    unfold passCh
    cases hc : cr lv with
    | none =>
      rw [if_neg]
      rintro ⟨h1, h2, _⟩
      exact h2 lv (Nat.le_refl _) h1 hc
    | some p =>
      obtain ⟨lo, hi⟩ := p
      simp only []
      by_cases e : a = lv
      · subst e
        rw [if_pos rfl, if_pos ⟨Nat.le_refl _, fun j h1 h2 => by rw [show j = a by omega, hc]; simp, lo, hi, hc, Or.inl (by omega)⟩]
      · rw [if_neg e, if_neg (fun c => by have := hv.1; omega)]
  | d + 1, lv, chs, hd, a, b, hv => by
    unfold passCh
    cases hc : cr lv with
    | none =>
      rw [if_neg]
      rintro ⟨h1, h2, _⟩
      exact h2 lv (Nat.le_refl _) h1 hc
    | some p =>
      obtain ⟨lo, hi⟩ := p
      simp only []
      rw [passCh_eq d (lv + 1) (clrCh lv lo hi chs) (by omega) a b hv]
      by_cases e : a = lv
      · subst e
        rw [if_neg (fun c => by omega)]
        unfold clrCh
        by_cases hp : lo ≤ b ∧ b ≤ hi
        · rw [if_pos ⟨rfl, hp⟩, if_pos ⟨Nat.le_refl _, fun j h1 h2 => by rw [show j = a by omega, hc]; simp, lo, hi, hc, Or.inr hp⟩]
        · rw [if_neg (fun c => hp c.2), if_neg]
          rintro ⟨_, _, lo2, hi2, e2, h3⟩
          rw [hc] at e2
          simp only [Option.some.injEq, Prod.mk.injEq] at e2
          obtain ⟨rfl, rfl⟩ := e2
          rcases h3 with h3 | h3
          · omega
          · exact hp h3
      · have e1 : clrCh lv lo hi chs a b = chs a b := by unfold clrCh; rw [if_neg (fun c => e c.1)]
        rw [e1]
        have e2 : (lv + 1 ≤ a ∧ ps cr L (lv + 1) a b) ↔ (lv ≤ a ∧ ps cr L lv a b) := by
          constructor
          · rintro ⟨h1, h2, h3⟩
            refine ⟨by omega, fun j g1 g2 => ?_, h3⟩
            by_cases ej : j = lv
            · subst ej; rw [hc]; simp
            · exact h2 j (by omega) g2
          · rintro ⟨h1, h2, h3⟩
            exact ⟨by omega, fun j g1 g2 => h2 j (by omega) g2, h3⟩
        by_cases hq : lv ≤ a ∧ ps cr L lv a b
        · rw [if_pos hq, if_pos (e2.2 hq)]
        · rw [if_neg hq, if_neg (fun c => hq (e2.1 c))]
end Go.Proofs.Ytndpkonihcebeaa.Whl
