/- Opening a row's arguments: a slice of accesses (structs of four whole numbers). -/
import Derived.Test.YthllplocbciepaaBase
import Derived.ProofKit
import Derived.OpenShut
import Derived.Deep.Slices
import Derived.Deep.Fields
namespace Go.Proofs.Ythllplocbciepaa
open Go.RowKit Go.ChangeShapes Go.WideShapes Go.Deep
/-- An access. -/
structure Acc where
  kind : Int
  i : Int
  old : Int
  v : Int
deriving Inhabited
/-- The numbers are such as their types have. -/
structure Acc.Wf (x : Acc) : Prop where
  k0 : -9223372036854775808 ≤ x.kind ∧ x.kind ≤ 9223372036854775807
  i0 : -9223372036854775808 ≤ x.i ∧ x.i ≤ 9223372036854775807
  o0 : 0 ≤ x.old ∧ x.old < 18446744073709551616
  v0 : 0 ≤ x.v ∧ x.v < 18446744073709551616
/-- A slice whose address is A (none: nil) reads as these accesses, below block B. -/
def RdA (w : World) (B : Nat) (A : Option Addr) (l : List Acc) : Prop := ∀ i (h : i < l.length), ∃ a : Addr, A = some a ∧ a.block < B ∧
  w.cell? (a.add (i * 4)) = some (.int .i64 l[i].kind) ∧ w.cell? ((a.add (i * 4)).add 1) = some (.int .i64 l[i].i) ∧ w.cell? ((a.add (i * 4)).add 2) = some (.int .u64 l[i].old) ∧ w.cell? ((a.add (i * 4)).add 3) = some (.int .u64 l[i].v)
theorem add_block (a : Addr) (i : Nat) : (a.add i).block = a.block := by unfold Addr.add; split <;> rfl
theorem RdA.later {w w' : World} {B : Nat} {A : Option Addr} {l : List Acc} (h : RdA w B A l) (m : Below B w w') : RdA w' B A l := fun i hi => by
  obtain ⟨a, h1, h2, c0, c1, c2, c3⟩ := h i hi
  refine ⟨a, h1, h2, ?_, ?_, ?_, ?_⟩
  · rw [m.cell (by rw [add_block]; exact h2)]; exact c0
  · rw [m.cell (by rw [add_block, add_block]; exact h2)]; exact c1
  · rw [m.cell (by rw [add_block, add_block]; exact h2)]; exact c2
  · rw [m.cell (by rw [add_block, add_block]; exact h2)]; exact c3
theorem RdA.nil (w : World) (B : Nat) (A : Option Addr) : RdA w B A [] := fun i hi => by simp at hi
theorem i64_wf {a : Int} (h : (Lit.int .i64 a).wf = true) : -9223372036854775808 ≤ a ∧ a ≤ 9223372036854775807 := by
  simp [Lit.wf, IntKind.min, IntKind.max, IntKind.signed, IntKind.bits] at h
  omega
theorem u64_wf {a : Int} (h : (Lit.int .u64 a).wf = true) : 0 ≤ a ∧ a < 18446744073709551616 := by
  simp [Lit.wf, IntKind.min, IntKind.max, IntKind.signed, IntKind.bits] at h
  omega
section
variable {H : Type} {enc : TypeId × Value → H} {P : Program} {w : World} {base b0 : Nat} {spare : Nat → Bool} {held : Bool} {r : Reach} {t e ti tu : Nat} {v : Value} {d : DataW H} {p : List MemPlace}

theorem open_acc {fuel : Nat} {cs : List Value} {x : DataW H × List MemPlace} {f0 f1 f2 f3 : Field} (he : P.underlying e = some (.struct #[f0, f1, f2, f3])) (hone : oneCellFields P #[f0, f1, f2, f3] = true) (hC : P.cellsOf e = 4)
    (h0 : P.underlying f0.type = some (.int .i64)) (h1 : P.underlying f1.type = some (.int .i64)) (h2 : P.underlying f2.type = some (.int .u64)) (h3 : P.underlying f3.type = some (.int .u64))
    (h : DataW.trod enc P w base spare held fuel e cs = some x) : ∃ z : Acc, z.Wf ∧ cs = [.int .i64 z.kind, .int .i64 z.i, .int .u64 z.old, .int .u64 z.v] := by
  obtain ⟨xs, n, _, hx, hcl, hlen, hg⟩ := DataW.trod_struct he h
  obtain ⟨o0, k0⟩ := hone_of hone 0 f0 rfl
  obtain ⟨o1, k1⟩ := hone_of hone 1 f1 rfl
  obtain ⟨o2, k2⟩ := hone_of hone 2 f2 rfl
  obtain ⟨o3, k3⟩ := hone_of hone 3 f3 rfl
  have g0 := hg 0 f0 rfl
  have g1 := hg 1 f1 rfl
  have g2 := hg 2 f2 rfl
  have g3 := hg 3 f3 rfl
  rw [hC] at hcl
  match xs, hlen, cs, hcl with
  | [y0, y1, y2, y3], _, [c0, c1, c2, c3], _ =>
    rw [o0, k0] at g0
    rw [o1, k1] at g1
    rw [o2, k2] at g2
    rw [o3, k3] at g3
    obtain ⟨z0, e0, _, w0⟩ := DataW.trod_int (x := y0) h0 (by simpa using g0)
    obtain ⟨z1, e1, _, w1⟩ := DataW.trod_int (x := y1) h1 (by simpa using g1)
    obtain ⟨z2, e2, _, w2⟩ := DataW.trod_int (x := y2) h2 (by simpa using g2)
    obtain ⟨z3, e3, _, w3⟩ := DataW.trod_int (x := y3) h3 (by simpa using g3)
    refine ⟨⟨z0, z1, z2, z3⟩, ⟨i64_wf w0, i64_wf w1, u64_wf w2, u64_wf w3⟩, ?_⟩
    simp at e0 e1 e2 e3
    rw [e0, e1, e2, e3]

/-- A slice of accesses as it lies in the world. -/
def SlA (w : World) (v : Value) (l : List Acc) : Prop := ∃ (A : Option Addr) (c : Nat), v = .slice A l.length c ∧ (A = none → l.length = 0 ∧ c = 0) ∧ l.length ≤ c ∧ c ≤ maxLen ∧ RdA w w.heap.size A l ∧ ∀ z ∈ l, z.Wf
theorem read_accs {fuel : Nat} {cs : List Value} {x : DataW H × List MemPlace} {f0 f1 f2 f3 : Field} (ht : P.underlying t = some (.slice e)) (he : P.underlying e = some (.struct #[f0, f1, f2, f3])) (hone : oneCellFields P #[f0, f1, f2, f3] = true) (hC : P.cellsOf e = 4)
    (h0 : P.underlying f0.type = some (.int .i64)) (h1 : P.underlying f1.type = some (.int .i64)) (h2 : P.underlying f2.type = some (.int .u64)) (h3 : P.underlying f3.type = some (.int .u64))
    (h : DataW.trod enc P w base spare held fuel t cs = some x) : ∃ v l, cs = [v] ∧ SlA w v l := by
  rcases open_slice ht h with ⟨rfl, _⟩ | ⟨a, len, cap, m, n, D, Pl, rfl, hb, hl, hm, hmm, _, hx⟩
  · exact ⟨_, [], rfl, none, 0, rfl, fun _ => ⟨rfl, rfl⟩, Nat.le_refl _, Nat.zero_le _, RdA.nil _ _ _, by simp⟩
  · have hlm : len ≤ m := by rw [hmm]; split <;> omega
    have hall : ∀ i, i < len → ∃ z : Acc, z.Wf ∧ w.cell? (a.add (i * 4)) = some (.int .i64 z.kind) ∧ w.cell? ((a.add (i * 4)).add 1) = some (.int .i64 z.i) ∧ w.cell? ((a.add (i * 4)).add 2) = some (.int .u64 z.old) ∧ w.cell? ((a.add (i * 4)).add 3) = some (.int .u64 z.v) := by
      intro i hi
      obtain ⟨cs', hc, ht'⟩ := hx i (by omega)
      rw [hC] at hc
      obtain ⟨z, hw, rfl⟩ := open_acc he hone hC h0 h1 h2 h3 ht'
      obtain ⟨_, hcl, hat⟩ := World.cells?_some hc
      have g0 := hat 0 (by omega)
      have g1 := hat 1 (by omega)
      have g2 := hat 2 (by omega)
      have g3 := hat 3 (by omega)
      refine ⟨z, hw, ?_, by simpa using g1, by simpa using g2, by simpa using g3⟩
      have e : (a.add (i * 4)).add 0 = a.add (i * 4) := by rw [Go.Deep.add_add]; rfl
      rw [e] at g0
      simpa using g0
    obtain ⟨Z, hZ⟩ := choose_lt (α := Acc) hall
    refine ⟨_, (List.range len).map Z, rfl, some a, cap, by rw [List.length_map, List.length_range], by simp, by rw [List.length_map, List.length_range]; exact hl, hm, ?_, ?_⟩
    · intro i hi
      rw [List.length_map, List.length_range] at hi
      obtain ⟨_, c0, c1, c2, c3⟩ := hZ i hi
      refine ⟨a, rfl, ?_, ?_, ?_, ?_, ?_⟩
      · have := block_lt_of_cell c0
        rw [add_block] at this
        exact this
      all_goals simpa using (by assumption)
    · intro z hz
      obtain ⟨i, hi, rfl⟩ := List.mem_map.1 hz
      exact (hZ i (List.mem_range.1 hi)).1
theorem open_sla {f0 f1 f2 f3 : Field} (ht : P.underlying t = some (.slice e)) (he : P.underlying e = some (.struct #[f0, f1, f2, f3])) (hone : oneCellFields P #[f0, f1, f2, f3] = true) (hC : P.cellsOf e = 4)
    (h0 : P.underlying f0.type = some (.int .i64)) (h1 : P.underlying f1.type = some (.int .i64)) (h2 : P.underlying f2.type = some (.int .u64)) (h3 : P.underlying f3.type = some (.int .u64))
    (hv : Value.okWide P w r b0 t v) (h : DataW.Trod enc P w base spare held t v d p) : ∃ l, SlA w v l := by
  obtain ⟨fuel, hf⟩ := h
  obtain ⟨A0, L0, C0, rfl⟩ := okWide_slice ht hv
  obtain ⟨v, l, h1, h2⟩ := read_accs ht he hone hC h0 h1 h2 h3 hf
  have : Value.slice A0 L0 C0 = v := by simpa [Value.cells] using h1
  rw [this]
  exact ⟨l, h2⟩
end
end Go.Proofs.Ythllplocbciepaa
