/- A slice of whole numbers that is only read, nil let in. -/
import Derived.Test.YtndpkonihcebeaaBase
namespace Go.Proofs.Ytndpkonihcebeaa
open Go.RowKit
/-- A slice whose address is A (none: nil) reads as these numbers, below block B. -/
def Rd (k : IntKind) (w : World) (B : Nat) (A : Option Addr) (xs : List Int) : Prop := ∀ i (h : i < xs.length), ∃ a : Addr, A = some a ∧ a.block < B ∧ w.cell? (a.add i) = some (.int k xs[i])
theorem Rd.later {k : IntKind} {w w' : World} {B : Nat} {A : Option Addr} {xs : List Int} (h : Rd k w B A xs) (m : Below B w w') : Rd k w' B A xs := fun i hi => by
  obtain ⟨a, h1, h2, h3⟩ := h i hi
  refine ⟨a, h1, h2, ?_⟩
  have hb : (a.add i).block = a.block := by unfold Addr.add; split <;> rfl
  rw [m.cell (by rw [hb]; exact h2)]
  exact h3
theorem Rd.more {k : IntKind} {w : World} {B B' : Nat} {A : Option Addr} {xs : List Int} (h : Rd k w B A xs) (hB : B ≤ B') : Rd k w B' A xs := fun i hi => by
  obtain ⟨a, h1, h2, h3⟩ := h i hi
  exact ⟨a, h1, Nat.lt_of_lt_of_le h2 hB, h3⟩
theorem Rd.nil (k : IntKind) (w : World) (B : Nat) (A : Option Addr) : Rd k w B A [] := fun i hi => by simp at hi
theorem Rd.row {k : IntKind} {w : World} {B b : Nat} {xs : List Int} {t : TypeId} {fr : Nat × Nat} {R : Array Value} (h : w.heap[b]? = some (.cells R t fr)) (hR : ∀ i (hi : i < xs.length), R[i]? = some (.int k xs[i])) (hb : b < B) : Rd k w B (some ⟨b, 0, none⟩) xs :=
  fun i hi => ⟨_, rfl, hb, by
    have e : (⟨b, 0, none⟩ : Addr).add i = ⟨b, i, none⟩ := by unfold Addr.add; split <;> simp_all
    rw [e]
    simp only [World.cell?, h]
    simpa using hR i hi⟩
end Go.Proofs.Ytndpkonihcebeaa
