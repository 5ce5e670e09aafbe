/- Opening a row's arguments: slices of structs of two numbers, or of a truth and a number. -/
import Derived.Test.YtndpkonihcebeaaOpenB
import Derived.Deep.Fields
namespace Go.Proofs.Ytndpkonihcebeaa
open Go.RowKit Go.ChangeShapes Go.WideShapes Go.Deep
/-- A slice of pairs, each of two cells, as it lies in the world. -/
def SlP (w : World) (v : Value) (l : List (Value × Value)) : Prop := ∃ (A : Option Addr) (c : Nat), v = .slice A l.length c ∧ l.length ≤ c ∧ c ≤ maxLen ∧ ∀ (i : Nat) (x : Value × Value), l[i]? = some x → ∃ a : Addr, A = some a ∧ a.block < w.heap.size ∧ w.cell? (a.add (i * 2)) = some x.1 ∧ w.cell? ((a.add (i * 2)).add 1) = some x.2
section
variable {H : Type} {enc : TypeId × Value → H} {P : Program} {w : World} {base b0 : Nat} {spare : Nat → Bool} {held : Bool} {r : Reach} {t e q ti tu : Nat} {v : Value} {d : DataW H} {p : List MemPlace}
theorem open_pair {fuel : Nat} {cs : List Value} {x : DataW H × List MemPlace} {f0 f1 : Field} {A B : Value → Prop} (he : P.underlying e = some (.struct #[f0, f1])) (hone : oneCellFields P #[f0, f1] = true) (hC : P.cellsOf e = 2)
    (h0 : ∀ n u y, DataW.trod enc P w base spare held n f0.type [u] = some y → A u) (h1 : ∀ n u y, DataW.trod enc P w base spare held n f1.type [u] = some y → B u)
    (h : DataW.trod enc P w base spare held fuel e cs = some x) : ∃ c0 c1, A c0 ∧ B c1 ∧ cs = [c0, c1] := by
  obtain ⟨xs, n, _, hx, hcl, hlen, hg⟩ := DataW.trod_struct he h
  obtain ⟨o0, k0⟩ := hone_of hone 0 f0 rfl
  obtain ⟨o1, k1⟩ := hone_of hone 1 f1 rfl
  have g0 := hg 0 f0 rfl
  have g1 := hg 1 f1 rfl
  rw [hC] at hcl
  match xs, hlen, cs, hcl with
  | [y0, y1], _, [c0, c1], _ =>
    rw [o0, k0] at g0
    rw [o1, k1] at g1
    exact ⟨c0, c1, h0 _ _ y0 (by simpa using g0), h1 _ _ y1 (by simpa using g1), rfl⟩
theorem read_pairs {fuel : Nat} {cs : List Value} {x : DataW H × List MemPlace} {f0 f1 : Field} {A B : Value → Prop} (ht : P.underlying t = some (.slice e)) (he : P.underlying e = some (.struct #[f0, f1])) (hone : oneCellFields P #[f0, f1] = true) (hC : P.cellsOf e = 2)
    (h0 : ∀ n u y, DataW.trod enc P w base spare held n f0.type [u] = some y → A u) (h1 : ∀ n u y, DataW.trod enc P w base spare held n f1.type [u] = some y → B u)
    (h : DataW.trod enc P w base spare held fuel t cs = some x) : ∃ v l, cs = [v] ∧ SlP w v l ∧ ∀ z ∈ l, A z.1 ∧ B z.2 := by
  rcases open_slice ht h with ⟨rfl, _⟩ | ⟨a, len, cap, m, n, D, Pl, rfl, hb, hl, hm, hmm, _, hx⟩
  · exact ⟨_, [], rfl, ⟨none, 0, rfl, Nat.le_refl _, Nat.zero_le _, by simp⟩, by simp⟩
  · have hlm : len ≤ m := by rw [hmm]; split <;> omega
    have hall : ∀ i, i < len → ∃ z : Value × Value, A z.1 ∧ B z.2 ∧ w.cell? (a.add (i * 2)) = some z.1 ∧ w.cell? ((a.add (i * 2)).add 1) = some z.2 := by
      intro i hi
      obtain ⟨cs', hc, ht'⟩ := hx i (by omega)
      rw [hC] at hc
      obtain ⟨c0, c1, ha, hb, rfl⟩ := open_pair he hone hC h0 h1 ht'
      obtain ⟨_, hcl, hat⟩ := World.cells?_some hc
      have g0 := hat 0 (by omega)
      have g1 := hat 1 (by omega)
      refine ⟨(c0, c1), ha, hb, ?_, by simpa using g1⟩
      have e : (a.add (i * 2)).add 0 = a.add (i * 2) := by rw [Go.Deep.add_add]; rfl
      rw [e] at g0
      simpa using g0
    obtain ⟨Z, hZ⟩ := choose_lt (α := Value × Value) hall
    refine ⟨_, (List.range len).map Z, rfl, ⟨some a, cap, by rw [List.length_map, List.length_range], by rw [List.length_map, List.length_range]; exact hl, hm, fun i x hi => ?_⟩, fun z hz => ?_⟩
    · obtain ⟨hj, rfl⟩ := List.getElem?_eq_some_iff.1 hi
      rw [List.length_map, List.length_range] at hj
      obtain ⟨_, _, c0, c1⟩ := hZ i hj
      refine ⟨a, rfl, ?_, by simpa using c0, by simpa using c1⟩
      have := block_lt_of_cell c0
      rw [addr_block] at this
      exact this
    · obtain ⟨i, hi, rfl⟩ := List.mem_map.1 hz
      exact ⟨(hZ i (List.mem_range.1 hi)).1, (hZ i (List.mem_range.1 hi)).2.1⟩
theorem open_pairs {f0 f1 : Field} {A B : Value → Prop} (ht : P.underlying t = some (.slice e)) (he : P.underlying e = some (.struct #[f0, f1])) (hone : oneCellFields P #[f0, f1] = true) (hC : P.cellsOf e = 2)
    (h0 : ∀ n u y, DataW.trod enc P w base spare held n f0.type [u] = some y → A u) (h1 : ∀ n u y, DataW.trod enc P w base spare held n f1.type [u] = some y → B u)
    (hv : Value.okWide P w r b0 t v) (h : DataW.Trod enc P w base spare held t v d p) : ∃ l, SlP w v l ∧ ∀ z ∈ l, A z.1 ∧ B z.2 := by
  obtain ⟨fuel, hf⟩ := h
  obtain ⟨A0, L0, C0, rfl⟩ := okWide_slice ht hv
  obtain ⟨v, l, h1, h2⟩ := read_pairs ht he hone hC h0 h1 hf
  have : Value.slice A0 L0 C0 = v := by simpa [Value.cells] using h1
  rw [this]
  exact ⟨l, h2⟩
theorem cell_i64 {f : Nat} (h : P.underlying f = some (.int .i64)) : ∀ n u y, DataW.trod enc P w base spare held n f [u] = some y → ∃ z : Int, u = .int .i64 z ∧ -9223372036854775808 ≤ z ∧ z ≤ 9223372036854775807 := fun n u y hy => by
  obtain ⟨z, e, _, hw⟩ := DataW.trod_int (x := y) h hy
  refine ⟨z, by simpa using e, ?_⟩
  simp [Lit.wf, IntKind.min, IntKind.max, IntKind.signed, IntKind.bits] at hw
  omega
theorem cell_u32 {f : Nat} (h : P.underlying f = some (.int .u32)) : ∀ n u y, DataW.trod enc P w base spare held n f [u] = some y → ∃ z : Int, u = .int .u32 z ∧ 0 ≤ z ∧ z < 4294967296 := fun n u y hy => by
  obtain ⟨z, e, _, hw⟩ := DataW.trod_int (x := y) h hy
  refine ⟨z, by simpa using e, ?_⟩
  simp [Lit.wf, IntKind.min, IntKind.max, IntKind.signed, IntKind.bits] at hw
  omega
theorem cell_bool {f : Nat} (h : P.underlying f = some .bool) : ∀ n u y, DataW.trod enc P w base spare held n f [u] = some y → ∃ z : Bool, u = .bool z := fun n u y hy => by
  obtain ⟨z, e, _⟩ := DataW.trod_bool h hy
  exact ⟨z, by simpa using e⟩
end
/-- A slice of pairs of whole numbers. -/
def SlII (w : World) (v : Value) (l : List (Int × Int)) : Prop := SlP w v (l.map fun x => (.int .i64 x.1, .int .i64 x.2)) ∧ ∀ z ∈ l, (-9223372036854775808 ≤ z.1 ∧ z.1 ≤ 9223372036854775807) ∧ (-9223372036854775808 ≤ z.2 ∧ z.2 ≤ 9223372036854775807)
/-- A slice of pairs of a truth and a number of 32 bits. -/
def SlBU (w : World) (v : Value) (l : List (Bool × Int)) : Prop := SlP w v (l.map fun x => (.bool x.1, .int .u32 x.2)) ∧ ∀ z ∈ l, 0 ≤ z.2 ∧ z.2 < 4294967296
theorem choose_map {α β : Type} {f : α → β} {P : α → Prop} : ∀ {l : List β}, (∀ z ∈ l, ∃ x, z = f x ∧ P x) → ∃ m : List α, l = m.map f ∧ ∀ x ∈ m, P x
  | [], _ => ⟨[], rfl, by simp⟩
  | z :: l, h => by
    obtain ⟨x, rfl, hx⟩ := h z List.mem_cons_self
    obtain ⟨m, rfl, hm⟩ := choose_map fun y hy => h y (List.mem_cons_of_mem _ hy)
    refine ⟨x :: m, rfl, fun y hy => ?_⟩
    rcases List.mem_cons.1 hy with rfl | hy
    · exact hx
    · exact hm y hy
section
variable {H : Type} {enc : TypeId × Value → H} {P : Program} {w : World} {base b0 : Nat} {spare : Nat → Bool} {held : Bool} {r : Reach} {t e : Nat} {v : Value} {d : DataW H} {p : List MemPlace}
theorem open_slii {f0 f1 : Field} (ht : P.underlying t = some (.slice e)) (he : P.underlying e = some (.struct #[f0, f1])) (hone : oneCellFields P #[f0, f1] = true) (hC : P.cellsOf e = 2) (h0 : P.underlying f0.type = some (.int .i64)) (h1 : P.underlying f1.type = some (.int .i64))
    (hv : Value.okWide P w r b0 t v) (h : DataW.Trod enc P w base spare held t v d p) : ∃ l, SlII w v l := by
  obtain ⟨l, h2, h3⟩ := open_pairs ht he hone hC (cell_i64 h0) (cell_i64 h1) hv h
  obtain ⟨m, rfl, hm⟩ := choose_map (f := fun x : Int × Int => (Value.int .i64 x.1, Value.int .i64 x.2)) (P := fun z => (-9223372036854775808 ≤ z.1 ∧ z.1 ≤ 9223372036854775807) ∧ (-9223372036854775808 ≤ z.2 ∧ z.2 ≤ 9223372036854775807)) (l := l) (fun z hz => by
    obtain ⟨⟨a, e1, w1⟩, ⟨b, e2, w2⟩⟩ := h3 z hz
    exact ⟨(a, b), Prod.ext e1 e2, w1, w2⟩)
  exact ⟨m, h2, hm⟩
theorem open_slbu {f0 f1 : Field} (ht : P.underlying t = some (.slice e)) (he : P.underlying e = some (.struct #[f0, f1])) (hone : oneCellFields P #[f0, f1] = true) (hC : P.cellsOf e = 2) (h0 : P.underlying f0.type = some .bool) (h1 : P.underlying f1.type = some (.int .u32))
    (hv : Value.okWide P w r b0 t v) (h : DataW.Trod enc P w base spare held t v d p) : ∃ l, SlBU w v l := by
  obtain ⟨l, h2, h3⟩ := open_pairs ht he hone hC (cell_bool h0) (cell_u32 h1) hv h
  obtain ⟨m, rfl, hm⟩ := choose_map (f := fun x : Bool × Int => (Value.bool x.1, Value.int .u32 x.2)) (P := fun z => 0 ≤ z.2 ∧ z.2 < 4294967296) (l := l) (fun z hz => by
    obtain ⟨⟨a, e1⟩, ⟨b, e2, w2⟩⟩ := h3 z hz
    exact ⟨(a, b), Prod.ext e1 e2, w2⟩)
  exact ⟨m, h2, hm⟩
end
theorem SlP.later {w w' : World} {A : Option Addr} {n c : Nat} {l : List (Value × Value)} (h : SlP w (.slice A n c) l) (m : Below w.heap.size w w') (i : Nat) (x : Value × Value) (hi : l[i]? = some x) : ∃ a : Addr, A = some a ∧ w'.cell? (a.add (i * 2)) = some x.1 ∧ w'.cell? ((a.add (i * 2)).add 1) = some x.2 := by
  obtain ⟨A', c', e, _, _, hl⟩ := h
  simp only [Value.slice.injEq] at e
  obtain ⟨rfl, _, _⟩ := e
  obtain ⟨a, rfl, h1, h2, h3⟩ := hl i x hi
  exact ⟨a, rfl, (m.cell (by rw [addr_block]; exact h1)).trans h2, (m.cell (by rw [addr_block, addr_block]; exact h1)).trans h3⟩
end Go.Proofs.Ytndpkonihcebeaa
