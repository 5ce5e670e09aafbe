/- Opening a row's arguments: slices of bools, slices of slices of bools. -/
import Derived.Test.YtndpkonihcebeaaBase
import Derived.ProofKit
import Derived.OpenShut
import Derived.Deep.Slices
namespace Go.Proofs.Ytndpkonihcebeaa
open Go.RowKit Go.ChangeShapes Go.WideShapes Go.Deep
theorem addr_block (a : Addr) (i : Nat) : (a.add i).block = a.block := by unfold Addr.add; split <;> rfl
/-- A slice whose address is A (none: nil) reads as these values, below block B. -/
def RdV (w : World) (B : Nat) (A : Option Addr) (vs : List Value) : Prop := ∀ (i : Nat) (v : Value), vs[i]? = some v → ∃ a : Addr, A = some a ∧ a.block < B ∧ w.cell? (a.add i) = some v
theorem RdV.later {w w' : World} {B : Nat} {A : Option Addr} {vs : List Value} (h : RdV w B A vs) (m : Below B w w') : RdV w' B A vs := fun i v hi => by
  obtain ⟨a, h1, h2, h3⟩ := h i v hi
  exact ⟨a, h1, h2, (m.cell (by rw [addr_block]; exact h2)).trans h3⟩
theorem RdV.nil {w : World} {B : Nat} {A : Option Addr} : RdV w B A [] := fun i v h => by simp at h
/-- A slice of bools as it lies in the world. -/
def SlB (w : World) (v : Value) (l : List Bool) : Prop := ∃ (A : Option Addr) (c : Nat), v = .slice A l.length c ∧ l.length ≤ c ∧ c ≤ maxLen ∧ RdV w w.heap.size A (l.map Value.bool)
/-- A slice of slices of bools as it lies in the world. -/
def SlBB (w : World) (v : Value) (ls : List (List Bool)) : Prop := ∃ (A : Option Addr) (c : Nat) (us : List Value), v = .slice A ls.length c ∧ ls.length ≤ c ∧ c ≤ maxLen ∧ us.length = ls.length ∧ RdV w w.heap.size A us ∧ ∀ (i : Nat) (u : Value) (l : List Bool), us[i]? = some u → ls[i]? = some l → SlB w u l
section
variable {H : Type} {enc : TypeId × Value → H} {P : Program} {w : World} {base b0 : Nat} {spare : Nat → Bool} {held : Bool} {r : Reach} {t e q ti tu : Nat} {v : Value} {d : DataW H} {p : List MemPlace}
theorem read_slb {fuel : Nat} {cs : List Value} {x : DataW H × List MemPlace} (ht : P.underlying t = some (.slice e)) (he : P.underlying e = some .bool) (ce : P.cellsOf e = 1) (h : DataW.trod enc P w base spare held fuel t cs = some x) : ∃ v l, cs = [v] ∧ SlB w v l := by
  rcases open_slice1 ht ce h with ⟨rfl, _⟩ | ⟨a, len, cap, m, n, V, D, Pl, rfl, hb, hl, hm, hmm, rfl, hx⟩
  · exact ⟨_, [], rfl, none, 0, rfl, Nat.le_refl _, Nat.zero_le _, RdV.nil⟩
  · have hlm : len ≤ m := by rw [hmm]; split <;> omega
    have hall : ∀ i, i < len → ∃ z : Bool, V i = .bool z := by
      intro i hi
      obtain ⟨z, hz, _⟩ := DataW.trod_bool he (hx i (by omega)).2
      exact ⟨z, by simpa using hz⟩
    obtain ⟨Z, hZ⟩ := choose_lt (α := Bool) hall
    refine ⟨_, (List.range len).map Z, rfl, some a, cap, by rw [List.length_map, List.length_range], by rw [List.length_map, List.length_range]; exact hl, hm, fun i v hi => ?_⟩
    obtain ⟨hj, rfl⟩ := List.getElem?_eq_some_iff.1 hi
    have hj' : i < len := by simpa using hj
    have hc := (hx i (by omega)).1
    refine ⟨a, rfl, ?_, by rw [hc, hZ i hj']; simp⟩
    have := block_lt_of_cell hc
    rw [addr_block] at this
    exact this
theorem open_slb (ht : P.underlying t = some (.slice e)) (he : P.underlying e = some .bool) (ce : P.cellsOf e = 1) (hv : Value.okWide P w r b0 t v) (h : DataW.Trod enc P w base spare held t v d p) : ∃ l, SlB w v l := by
  obtain ⟨fuel, hf⟩ := h
  obtain ⟨A0, L0, C0, rfl⟩ := okWide_slice ht hv
  obtain ⟨v, l, h1, h2⟩ := read_slb ht he ce hf
  have : Value.slice A0 L0 C0 = v := by simpa [Value.cells] using h1
  rw [this]
  exact ⟨l, h2⟩
theorem read_slbb {fuel : Nat} {cs : List Value} {x : DataW H × List MemPlace} (ht : P.underlying t = some (.slice e)) (he : P.underlying e = some (.slice q)) (ce : P.cellsOf e = 1) (hq : P.underlying q = some .bool) (cq : P.cellsOf q = 1) (h : DataW.trod enc P w base spare held fuel t cs = some x) : ∃ v ls, cs = [v] ∧ SlBB w v ls := by
  rcases open_slice1 ht ce h with ⟨rfl, _⟩ | ⟨a, len, cap, m, n, V, D, Pl, rfl, hb, hl, hm, hmm, rfl, hx⟩
  · exact ⟨_, [], rfl, none, 0, [], rfl, Nat.le_refl _, Nat.zero_le _, rfl, RdV.nil, fun i u l h => by simp at h⟩
  · have hlm : len ≤ m := by rw [hmm]; split <;> omega
    have hall : ∀ i, i < len → ∃ l : List Bool, SlB w (V i) l := by
      intro i hi
      obtain ⟨u, l, hu, hs⟩ := read_slb he hq cq (hx i (by omega)).2
      have e : V i = u := by simpa using hu
      rw [e]
      exact ⟨l, hs⟩
    obtain ⟨Z, hZ⟩ := choose_lt (α := List Bool) hall
    refine ⟨_, (List.range len).map Z, rfl, some a, cap, (List.range len).map V, by rw [List.length_map, List.length_range], by rw [List.length_map, List.length_range]; exact hl, hm, by simp, fun i v hi => ?_, fun i u l h1 h2 => ?_⟩
    · obtain ⟨hj, rfl⟩ := List.getElem?_eq_some_iff.1 hi
      have hj' : i < len := by simpa using hj
      have hc := (hx i (by omega)).1
      refine ⟨a, rfl, ?_, by rw [hc]; simp⟩
      have := block_lt_of_cell hc
      rw [addr_block] at this
      exact this
    · obtain ⟨hj, rfl⟩ := List.getElem?_eq_some_iff.1 h1
      obtain ⟨_, rfl⟩ := List.getElem?_eq_some_iff.1 h2
      have hj' : i < len := by simpa using hj
      simpa using hZ i hj'
theorem open_slbb (ht : P.underlying t = some (.slice e)) (he : P.underlying e = some (.slice q)) (ce : P.cellsOf e = 1) (hq : P.underlying q = some .bool) (cq : P.cellsOf q = 1) (hv : Value.okWide P w r b0 t v) (h : DataW.Trod enc P w base spare held t v d p) : ∃ ls, SlBB w v ls := by
  obtain ⟨fuel, hf⟩ := h
  obtain ⟨A0, L0, C0, rfl⟩ := okWide_slice ht hv
  obtain ⟨v, l, h1, h2⟩ := read_slbb ht he ce hq cq hf
  have : Value.slice A0 L0 C0 = v := by simpa [Value.cells] using h1
  rw [this]
  exact ⟨l, h2⟩
end
end Go.Proofs.Ytndpkonihcebeaa
