/- Layer 8's laws: what puts and takes come to, in plain Lean. -/
import Derived.Test.YthllplocbciepaaSolo8b
namespace Go.Proofs.Ythllplocbciepaa.Kod.Eight
open Go.RowKit Go.Proofs.Ythllplocbciepaa Go.Proofs.Ythllplocbciepaa.Cell Go.Proofs.Ythllplocbciepaa.Wd
set_option linter.unusedVariables false
set_option linter.unusedSimpArgs false

/-- All that is in hand, put down, the last one first. -/
theorem puts_fold : ∀ (n : Nat) (h L s : List Int) (x : W8), L.length = n → (List.replicate n false).foldl act8 (s, { x with hands := h ++ L }) = (L ++ s, { x with hands := h })
  | 0, h, L, s, x, hn => by
    obtain rfl : L = [] := List.length_eq_zero_iff.1 hn
    simp
  | n + 1, h, L, s, x, hn => by
    have hne : L ≠ [] := fun e => by rw [e] at hn; simp at hn
    obtain ⟨L', i, rfl⟩ : ∃ L' i, L = L' ++ [i] := ⟨L.dropLast, L.getLast hne, (List.dropLast_concat_getLast hne).symm⟩
    have hl : L'.length = n := by simpa using hn
    have e : act8 (s, { x with hands := h ++ (L' ++ [i]) }) false = (i :: s, { x with hands := h ++ L' }) := by
      have e1 : (h ++ (L' ++ [i])).getLast? = some i := by simp
      have e2 : (h ++ (L' ++ [i])).dropLast = h ++ L' := by
        rw [← List.append_assoc, List.dropLast_concat]
      simp only [act8, e1, e2]
    rw [List.replicate_succ, List.foldl_cons, e, puts_fold n h L' (i :: s) x hl]
    simp
/-- As many as there are, taken. -/
theorem takes_fold : ∀ (n : Nat) (L s : List Int) (x : W8), L.length = n → (∀ i ∈ L, 0 ≤ i) → x.got = none → x.wrong = false → ∃ bu ba, (List.replicate n true).foldl act8 (L ++ s, x) = (s, ⟨x.hands ++ L, none, bu, ba, false⟩)
  | 0, L, s, x, hn, h0, hg, hw => by
    obtain rfl : L = [] := List.length_eq_zero_iff.1 hn
    refine ⟨x.busy, x.bare, ?_⟩
    obtain ⟨a1, a2, a3, a4, a5⟩ := x
    simp only at hg hw
    subst hg
    subst hw
    simp
  | n + 1, [], s, x, hn, h0, hg, hw => by simp at hn
  | n + 1, i :: L, s, x, hn, h0, hg, hw => by
    have e : act8 (i :: L ++ s, x) true = (L ++ s, told { x with busy := true, bare := false } i true) := rfl
    have hi := h0 i List.mem_cons_self
    obtain ⟨bu, ba, h⟩ := takes_fold n L s (told { x with busy := true, bare := false } i true) (by simpa using hn) (fun k hk => h0 k (List.mem_cons_of_mem _ hk)) (by simp [told, hg]) (by simp [told, hw, hi])
    refine ⟨bu, ba, ?_⟩
    rw [List.replicate_succ, List.foldl_cons, e, h]
    simp [told]
/-- What one task takes and puts back lies as it lay. -/
theorem back_fold (L R : List Int) (x : W8) (h0 : ∀ i ∈ L, 0 ≤ i) (hh : x.hands = L ++ R) (hg : x.got = none) (hw : x.wrong = false) :
    ∃ x1 x2 x3, (List.replicate (L ++ R).length false).foldl act8 ([], x) = (L ++ R, x1) ∧ (List.replicate L.length true).foldl act8 (L ++ R, x1) = (R, x2) ∧ (List.replicate L.length false).foldl act8 (R, x2) = (L ++ R, x3) ∧ x3.wrong = false ∧ x1.got = none ∧ x2.got = none ∧ x1.hands = [] ∧ x2.hands = L := by
  have e1 := puts_fold (L ++ R).length [] (L ++ R) [] x rfl
  rw [List.nil_append, List.append_nil, ← hh] at e1
  obtain ⟨bu, ba, e2⟩ := takes_fold L.length L R { x with hands := [] } rfl h0 hg hw
  have e3 := puts_fold L.length [] L R ⟨[] ++ L, none, bu, ba, false⟩ rfl
  refine ⟨_, _, _, ?_, e2, e3, rfl, hg, rfl, rfl, by simp⟩
  rw [← hh]
  exact e1
end Go.Proofs.Ythllplocbciepaa.Kod.Eight
