/- Small laws that the walks of this seat share: Go's min and max of two whole numbers, and short words for frames. -/
import Derived.Test.YtndpkonihcebeaaProg
import Derived.WalkKit
import Derived.WalkSpells
import Derived.WalkLawsBesides
import Derived.Deep.QuietTactic
import Derived.BigQuiet
import Derived.Deep.RegionWith
import Derived.Lib.Hide
import Derived.Deep.WholeRow
namespace Go.Proofs.Ytndpkonihcebeaa
open Go.RowKit

section
variable {P : Program}
theorem run_max_two (ts : Array TypeId) (t : TypeId) (k k' : IntKind) (x y : Int) (w : World) : (Builtin.max_ ts t #[.int k x, .int k' y]).run P w = .ok (.int k (if x < y then y else x)) w := by
  simp [Builtin.max_, Builtin.max2]
theorem run_min_two (ts : Array TypeId) (t : TypeId) (k k' : IntKind) (x y : Int) (w : World) : (Builtin.min_ ts t #[.int k x, .int k' y]).run P w = .ok (.int k (if y < x then y else x)) w := by
  simp [Builtin.min_, Builtin.min2]
end

/-- An operation whose run is known: it leaves a value. -/
theorem wpList_value {P : Program} {ops : Array Oper} {rest : List Oper} {o : Oper} {a : Act} {w w1 : World} {v : Value} {Q : Exit → Act → World → Prop} (hg : o.guard = none)
    (hr : (execOp a.eval o).run P w = .ok (.value v) w1) (h : wpList P ops Q rest (a.put o.dst v) w1) : wpList P ops Q (o :: rest) a w :=
  wpList_plain hg fun K hK => by unfold Oper.wp; rw [hr]; exact hK _ _ h
/-- An operation whose run is known: it leaves none. -/
theorem wpList_void {P : Program} {ops : Array Oper} {rest : List Oper} {o : Oper} {a : Act} {w w1 : World} {Q : Exit → Act → World → Prop} (hg : o.guard = none)
    (hr : (execOp a.eval o).run P w = .ok .skip w1) (h : wpList P ops Q rest (a.put o.dst undef) w1) : wpList P ops Q (o :: rest) a w :=
  wpList_plain hg fun K hK => by unfold Oper.wp; rw [hr]; exact hK _ _ h
/-- A variable of a type whose zero value is known, made anew. -/
theorem wpList_alloc_zero {P : Program} {ops : Array Oper} {rest : List Oper} {o : Oper} {a : Act} {w : World} {Q : Exit → Act → World → Prop} (hg : o.guard = none) (t : TypeId) (ho : o.op = .alloc t) (z : Array Value)
    (hz : ∀ w : World, (Instr.alloc t true (.tuple #[])).run P w = .ok (.pointer (some ⟨w.heap.size, 0, none⟩)) (w.alloc (.cells z t)))
    (h : wpList P ops Q rest (a.put o.dst (.pointer (some ⟨w.heap.size, 0, none⟩))) (w.alloc (.cells z t))) : wpList P ops Q (o :: rest) a w :=
  wpList_value hg (by unfold execOp; simp only [ho, Sem.run_bind, hz, Result.andThen_ok, Sem.run_pure]) h
/-- The zero value of an array or struct, as a literal without parts. -/
theorem wpList_build_zero {P : Program} {ops : Array Oper} {rest : List Oper} {o : Oper} {a : Act} {w : World} {Q : Exit → Act → World → Prop} (hg : o.guard = none) (t : TypeId) (ho : o.op = .build t #[]) (z : Array Value)
    (hz : P.built t [] = some z) (h : wpList P ops Q rest (a.put o.dst (.agg z)) w) : wpList P ops Q (o :: rest) a w := by
  refine wpList_build hg t #[] ho ?_ ?_
  · simp [hz]
  · simpa [hz] using h
/-- An element of an array value. -/
theorem run_index_agg {P : Program} {T e n : Nat} {d : TypeDesc} (hu : P.underlying T = some (.array n e)) (he : P.underlying e = some d) (hd : (match d with | .struct _ | .array _ _ => true | _ => false) = false)
    (hs : (P.info? e).map (·.size) = some 1) (cs : Array Value) (k : IntKind) (i : Int) (v : Value) (h0 : 0 ≤ i) (h1 : i < n) (hv : cs[i.toNat]? = some v) (w : World) :
    (Instr.index T (.agg cs) (.int k i)).run P w = .ok v w := by
  have hagg : (isAgg e).run P w = .ok false w := by
    unfold isAgg
    rw [Sem.run_bind, run_underlying he w]
    cases d <;> simp_all
  cases hq : P.info? e with
  | none => simp [hq] at hs
  | some inf =>
    have hsz : inf.size = 1 := by simpa [hq] using hs
    unfold Instr.index
    simp [asIntOf, Sem.run_bind, run_underlying hu w, h0, h1, sizeOf, typeInfo, hq, hsz, part, hagg, hv]
theorem heap_setRow_same (w : World) (g : Nat) (cs cs' : Array Value) (t : TypeId) (fr : Nat × Nat) (hg : w.heap[g]? = some (.cells cs t fr)) : (w.setRow g cs').heap[g]? = some (.cells cs' t fr) := setRow_heap w g cs cs' t fr hg
theorem heap_setRow_other (w : World) (g k : Nat) (cs : Array Value) (h : k ≠ g) : (w.setRow g cs).heap[k]? = w.heap[k]? := by
  simp only [World.setRow, Array.getElem?_modify]
  rw [if_neg (fun e => h e.symm)]
theorem Below.setRow {B : Nat} {a w : World} (h : Below B a w) {g : Nat} (hg : B ≤ g) (cs : Array Value) : Below B a (w.setRow g cs) :=
  h.trans ⟨rfl, rfl, rfl, by simp, fun k hk => heap_setRow_other _ _ _ _ (by omega)⟩

theorem below_drewN {B : Nat} {a w : World} (h : Below B a w) (n : Nat) : Below B a (w.drewN n) := ⟨h.os, h.tape, h.output, h.size, h.block⟩

/-- Nothing that was there has turned. -/
abbrev Made (w w' : World) : Prop := Below w.heap.size w w'
theorem Made.refl (w : World) : Made w w := Below.refl _ _
theorem Made.trans {a b c : World} (h : Made a b) (k : Made b c) : Made a c := Below.trans h (Below.mono k h.size)
theorem Made.of_eq {a b : World} (h : a = b) : Made a b := h ▸ Made.refl a
theorem Made.drewN (w : World) (n : Nat) : Made w (w.drewN n) := ⟨rfl, rfl, rfl, Nat.le_refl _, fun _ _ => rfl⟩

end Go.Proofs.Ytndpkonihcebeaa
