/- Opening a row's arguments: an array of whole numbers by value. -/
import Derived.Test.YtnkcekgjppkbpaaBase
import Derived.ProofKit
import Derived.OpenShut
namespace Go.Proofs.Ytnkcekgjppkbpaa
open Go.RowKit
section
variable {H : Type} {enc : TypeId × Value → H} {P : Program} {w : World} {base b0 : Nat} {spare : Nat → Bool} {held : Bool} {r : Reach} {t e n : Nat} {k : IntKind} {v : Value} {d : DataW H} {p : List MemPlace}

theorem open_ints_arr (ht : P.underlying t = some (.array n e)) (he : P.underlying e = some (.int k)) (hce : P.cellsOf e = 1) (hct : P.cellsOf t = n) (hv : Value.okWide P w r b0 t v) (h : DataW.Trod enc P w base spare held t v d p) :
    ∃ zs : List Int, zs.length = n ∧ v = .agg (zs.map (Value.int k)).toArray ∧ ∀ z ∈ zs, (Lit.int k z).wf = true := by
  simp only [Value.okWide, ht] at hv
  obtain ⟨cs, rfl, hcs, _⟩ := hv
  obtain ⟨fuel, hf⟩ := h
  obtain ⟨xs, m, _, _, hlen, hxl, hx⟩ := DataW.trod_array ht hf
  have hcl : cs.toList.length = n := by rw [← hct, ← hcs]; simp
  have hall : ∀ i (hi : i < n), ∃ z, cs.toList[i]? = some (.int k z) ∧ (Lit.int k z).wf = true := by
    intro i hi
    have h1 := hx i hi
    rw [hce, Nat.mul_one, List.getElem?_eq_getElem (by omega)] at h1
    obtain ⟨z, hz, _, hw⟩ := DataW.trod_int he h1
    refine ⟨z, ?_, hw⟩
    have : ((Value.agg cs).cells.toList.drop i).take 1 = [.int k z] := hz
    have h2 : ((cs.toList.drop i).take 1)[0]? = some (.int k z) := by rw [show cs.toList = (Value.agg cs).cells.toList from rfl, this]; rfl
    rw [List.getElem?_take_of_lt (by omega), List.getElem?_drop] at h2
    exact h2
  refine ⟨cs.toList.map intOf, by rw [List.length_map]; exact hcl, ?_, ?_⟩
  · congr 1
    apply Array.ext_getElem?
    intro i
    by_cases hi : i < n
    · obtain ⟨z, hz, _⟩ := hall i hi
      have hz' : cs[i]? = some (.int k z) := by rw [← hz]; simp
      rw [hz']
      simp [hz', intOf]
    · rw [Array.getElem?_eq_none (by rw [hcs, hct]; omega), Array.getElem?_eq_none (by simp; have := hcl; simp at this; omega)]
  · intro z hz
    obtain ⟨c, hc, rfl⟩ := List.mem_map.1 hz
    obtain ⟨i, hi, rfl⟩ := List.getElem_of_mem hc
    obtain ⟨z, hz, hw⟩ := hall i (by omega)
    rw [List.getElem?_eq_getElem hi] at hz
    rw [Option.some.inj hz]
    exact hw
end
theorem four {α : Type} (l : List α) (h : l.length = 4) : ∃ a b c d, l = [a, b, c, d] := by
  match l, h with
  | [a, b, c, d], _ => exact ⟨a, b, c, d, rfl⟩
end Go.Proofs.Ytnkcekgjppkbpaa
