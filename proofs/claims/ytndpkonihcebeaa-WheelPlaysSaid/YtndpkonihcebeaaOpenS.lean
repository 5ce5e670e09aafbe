/- Opening a row's arguments: a slice of whole numbers. -/
import Derived.Test.YtndpkonihcebeaaBase
import Derived.ProofKit
import Derived.OpenShut
import Derived.Deep.Slices
namespace Go.Proofs.Ytndpkonihcebeaa
open Go.RowKit Go.ChangeShapes Go.WideShapes Go.Deep
section
variable {H : Type} {enc : TypeId × Value → H} {P : Program} {w : World} {base b0 : Nat} {spare : Nat → Bool} {held : Bool} {r : Reach} {t e n : Nat} {k : IntKind} {v : Value} {d : DataW H} {p : List MemPlace}

/-- A slice of whole numbers as it lies in the world. -/
def SlK (k : IntKind) (w : World) (v : Value) (xs : List Int) : Prop := (v = .slice none 0 0 ∧ xs = []) ∨ ∃ (a : Addr) (cap : Nat), v = .slice (some a) xs.length cap ∧ xs.length ≤ cap ∧ cap ≤ maxLen ∧ ∀ i (h : i < xs.length), w.cell? (a.add i) = some (.int k xs[i])

theorem open_sl (ht : P.underlying t = some (.slice e)) (he : P.underlying e = some (.int k)) (hce : P.cellsOf e = 1) (hv : Value.okWide P w r b0 t v) (h : DataW.Trod enc P w base spare held t v d p) :
    ∃ zs : List Int, SlK k w v zs ∧ ∀ z ∈ zs, (Lit.int k z).wf = true := by
  obtain ⟨fuel, hf⟩ := h
  obtain ⟨A0, L0, C0, rfl⟩ := okWide_slice ht hv
  have hcell : ∀ s l c, (Value.slice A0 L0 C0).cells.toList = [.slice s l c] → Value.slice A0 L0 C0 = .slice s l c := by
    intro s l c hh
    simpa [Value.cells] using hh
  rcases open_slice1 ht hce hf with ⟨h1, _⟩ | ⟨a, len, cap, m, q, V, D, Pl, h1, hb, hl, hm, hmm, h2, hx⟩
  · exact ⟨[], .inl ⟨hcell _ _ _ h1, rfl⟩, by simp⟩
  · have hlm : len ≤ m := by rw [hmm]; split <;> omega
    have hall : ∀ i, i < len → ∃ z, V i = .int k z ∧ (Lit.int k z).wf = true := by
      intro i hi
      obtain ⟨_, h4⟩ := hx i (by omega)
      obtain ⟨z, hz, _, hw⟩ := DataW.trod_int he h4
      exact ⟨z, by simpa using hz, hw⟩
    refine ⟨(List.range len).map fun i => intOf (V i), .inr ⟨a, cap, ?_, ?_, hm, ?_⟩, ?_⟩
    · rw [List.length_map, List.length_range]; exact hcell _ _ _ h1
    · rw [List.length_map, List.length_range]; exact hl
    · intro i hi
      rw [List.length_map, List.length_range] at hi
      obtain ⟨z, hz, _⟩ := hall i hi
      rw [(hx i (by omega)).1, hz]
      simp [hz, intOf]
    · intro z hz
      obtain ⟨i, hi, rfl⟩ := List.mem_map.1 hz
      obtain ⟨z, hz, hw⟩ := hall i (List.mem_range.1 hi)
      rw [hz]; exact hw
end
end Go.Proofs.Ytndpkonihcebeaa
