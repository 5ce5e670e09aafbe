/- Opening a row's arguments: a slice of slices of accesses. -/
import Derived.Test.YthllplocbciepaaOpenA
namespace Go.Proofs.Ythllplocbciepaa
open Go.RowKit Go.ChangeShapes Go.WideShapes Go.Deep
/-- A slice of slices of accesses as it lies in the world. -/
def SlAA (w : World) (v : Value) (ls : List (List Acc)) : Prop := ∃ (A : Option Addr) (c : Nat), v = .slice A ls.length c ∧ ls.length ≤ c ∧ c ≤ maxLen ∧
  ∀ i (h : i < ls.length), ∃ (a : Addr) (u : Value), A = some a ∧ a.block < w.heap.size ∧ w.cell? (a.add i) = some u ∧ SlA w u ls[i]
section
variable {H : Type} {enc : TypeId × Value → H} {P : Program} {w : World} {base b0 : Nat} {spare : Nat → Bool} {held : Bool} {r : Reach} {t e q ti tu : Nat} {v : Value} {d : DataW H} {p : List MemPlace}
theorem read_accss {fuel : Nat} {cs : List Value} {x : DataW H × List MemPlace} {f0 f1 f2 f3 : Field} (ht : P.underlying t = some (.slice e)) (he : P.underlying e = some (.slice q)) (ce : P.cellsOf e = 1) (hq : P.underlying q = some (.struct #[f0, f1, f2, f3])) (hone : oneCellFields P #[f0, f1, f2, f3] = true) (hC : P.cellsOf q = 4)
    (h0 : P.underlying f0.type = some (.int .i64)) (h1 : P.underlying f1.type = some (.int .i64)) (h2 : P.underlying f2.type = some (.int .u64)) (h3 : P.underlying f3.type = some (.int .u64))
    (h : DataW.trod enc P w base spare held fuel t cs = some x) : ∃ v ls, cs = [v] ∧ SlAA w v ls := by
  rcases open_slice1 ht ce h with ⟨rfl, _⟩ | ⟨a, len, cap, m, n, V, D, Pl, rfl, hb, hl, hm, hmm, rfl, hx⟩
  · exact ⟨_, [], rfl, none, 0, rfl, Nat.le_refl _, Nat.zero_le _, fun i hi => by simp at hi⟩
  · have hlm : len ≤ m := by rw [hmm]; split <;> omega
    have hall : ∀ i, i < len → ∃ l : List Acc, SlA w (V i) l := by
      intro i hi
      obtain ⟨u, l, hu, hs⟩ := read_accs he hq hone hC h0 h1 h2 h3 (hx i (by omega)).2
      have e : V i = u := by simpa using hu
      rw [e]
      exact ⟨l, hs⟩
    obtain ⟨Z, hZ⟩ := choose_lt (α := List Acc) hall
    refine ⟨_, (List.range len).map Z, rfl, some a, cap, by rw [List.length_map, List.length_range], by rw [List.length_map, List.length_range]; exact hl, hm, fun i hi => ?_⟩
    rw [List.length_map, List.length_range] at hi
    have hc := (hx i (by omega)).1
    refine ⟨a, V i, rfl, ?_, hc, by simpa using hZ i hi⟩
    have := block_lt_of_cell hc
    rw [add_block] at this
    exact this
theorem open_slaa {f0 f1 f2 f3 : Field} (ht : P.underlying t = some (.slice e)) (he : P.underlying e = some (.slice q)) (ce : P.cellsOf e = 1) (hq : P.underlying q = some (.struct #[f0, f1, f2, f3])) (hone : oneCellFields P #[f0, f1, f2, f3] = true) (hC : P.cellsOf q = 4)
    (h0 : P.underlying f0.type = some (.int .i64)) (h1 : P.underlying f1.type = some (.int .i64)) (h2 : P.underlying f2.type = some (.int .u64)) (h3 : P.underlying f3.type = some (.int .u64))
    (hv : Value.okWide P w r b0 t v) (h : DataW.Trod enc P w base spare held t v d p) : ∃ ls, SlAA w v ls := by
  obtain ⟨fuel, hf⟩ := h
  obtain ⟨A0, L0, C0, rfl⟩ := okWide_slice ht hv
  obtain ⟨v, l, h1, h2⟩ := read_accss ht he ce hq hone hC h0 h1 h2 h3 hf
  have : Value.slice A0 L0 C0 = v := by simpa [Value.cells] using h1
  rw [this]
  exact ⟨l, h2⟩
end
/-- A slice of slices of accesses whose address is A: each place holds a slice, below block B. -/
def RdAA (w : World) (B : Nat) (A : Option Addr) (ls : List (List Acc)) : Prop := ∀ i (h : i < ls.length), ∃ (a : Addr) (A' : Option Addr) (n c : Nat), A = some a ∧ a.block < B ∧ w.cell? (a.add i) = some (.slice A' n c) ∧ n = ls[i].length ∧ n ≤ c ∧ c ≤ 9223372036854775807 ∧ RdA w B A' ls[i] ∧ ∀ z ∈ ls[i], z.Wf
theorem SlAA.rd {w : World} {v : Value} {ls : List (List Acc)} (h : SlAA w v ls) : ∃ (A : Option Addr) (c : Nat), v = .slice A ls.length c ∧ ls.length ≤ c ∧ c ≤ 9223372036854775807 ∧ RdAA w w.heap.size A ls := by
  obtain ⟨A, c, rfl, h1, h2, h3⟩ := h
  unfold maxLen at h2
  refine ⟨A, c, rfl, h1, by omega, fun i hi => ?_⟩
  obtain ⟨a, u, rfl, hb, hc, A', c', rfl, _, g1, g2, g3, g4⟩ := h3 i hi
  unfold maxLen at g2
  exact ⟨a, A', _, c', rfl, hb, hc, rfl, g1, by omega, g3, g4⟩
theorem RdAA.later {w w' : World} {B : Nat} {A : Option Addr} {ls : List (List Acc)} (h : RdAA w B A ls) (m : Below B w w') : RdAA w' B A ls := fun i hi => by
  obtain ⟨a, A', n, c, rfl, hb, hc, h1, h2, h3, h4, h5⟩ := h i hi
  exact ⟨a, A', n, c, rfl, hb, (m.cell (by rw [add_block]; exact hb)).trans hc, h1, h2, h3, h4.later m, h5⟩
end Go.Proofs.Ythllplocbciepaa
