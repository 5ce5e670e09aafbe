/- Layer 8's laws: small functions. -/
import Derived.Test.YthllplocbciepaaCode8d
namespace Go.Proofs.Ythllplocbciepaa.Kod.Eight
open Go.RowKit Go.Proofs.Ythllplocbciepaa Go.Proofs.Ythllplocbciepaa.Cell Go.Proofs.Ythllplocbciepaa.Wd
set_option linter.unusedVariables false
set_option linter.unusedSimpArgs false
variable {a b : Nat} {gb : Nat → Nat} {fl : FuncId}

set_option maxRecDepth 100000 in
set_option maxHeartbeats 1000000 in
theorem results_cell_tmp1 {P : Program} {fn : Func} {p t : Tmp} {ty : TypeId} (h : fn.results = #[.cell p ty, .tmp t]) (tmps : Array Value) (w : World) (g : Nat) (tt : TypeId) (cs : Array Value) (fr : Nat × Nat) (d : TypeDesc)
    (hp : tmps.getD p undef = .pointer (some ⟨g, 0, none⟩)) (hg : w.heap[g]? = some (.cells cs tt fr))
    (hu : P.underlying ty = some d) (hd : (match d with | .struct _ | .array _ _ => true | _ => false) = true) (hi : (P.info? ty).map (·.size) = some cs.size) :
    (results fn tmps).run P w = .ok (.tuple #[.agg cs, tmps.getD t undef]) w := by
  have hp' : tmps[p]?.getD undef = .pointer (some ⟨g, 0, none⟩) := by simpa using hp
  simp [results, h, hp', asAddr, run_loadVar_row w g tt ty cs fr d hg hu hd hi]
theorem row_set {w : World} {g o : Nat} {cs : Array Value} {t : TypeId} {fr : Nat × Nat} (h : w.heap[g]? = some (.cells cs t fr)) (v : Value) : (w.setCell ⟨g, o, none⟩ v).heap[g]? = some (.cells (cs.setIfInBounds o v) t fr) := by
  rw [setCell_eq_setRow _ _ _ _ _ _ _ h, heap_setRow_same _ _ _ _ _ _ h]
set_option maxRecDepth 100000 in
set_option maxHeartbeats 1000000 in
theorem link_ok : LinkOK 76 lk1 := by
  refine ⟨enters_of Try.func76 (by kernel_rfl) rfl, fun i w h0 h1 => ?_⟩
  have hw : IntKind.i64.wrap (1 + i) = lk1 i := by rw [IntKind.wrap_i64]; unfold lk1; omega
  go_enter Try.func76, Try.ntmps76
  go_wp2_with fail
  go_ret
  refine ⟨?_, rfl⟩
  rw [← hw]
  rfl
/-- A new stack without things, by value: cells and what else. -/
abbrev stk8 (a : Nat) : Value := .agg #[.pointer (some ⟨a, 0, none⟩), .int .i64 0, .func (.func 76) #[] #[]]
set_option maxRecDepth 100000 in
set_option maxHeartbeats 2000000 in
theorem fresh_c (n : Nat) (hn : n ≤ 100) (w : World) : Calls Try.prog 50 #[.int .i64 (n : Int)] w fun e w' =>
    ∃ a b, e = .returned (.tuple #[stk8 a, .bool true]) ∧ Arena w' a b 0 (List.replicate (1 + n) 0) ∧ w.heap.size ≤ a ∧ w.heap.size ≤ b ∧ Made w w' := by
  have HNW : Hid (∀ w, Calls Try.prog 36 #[.int .i64 (1 + n : Nat)] w fun e w' => ∃ a b, e = .returned (.tuple #[.pointer (some ⟨a, 0, none⟩), .int .i64 0]) ∧ Arena w' a b 0 (List.replicate (1 + n) 0) ∧ w.heap.size ≤ a ∧ w.heap.size ≤ b ∧ Made w w') := fun w => New_ex (1 + n) (by omega) (by omega) w
  have hw1 : IntKind.i64.wrap (1 + (n : Int)) = ((1 + n : Nat) : Int) := by rw [IntKind.wrap_i64]; omega
  go_enter Try.func50, Try.ntmps50
  go_wp2_with fail
  rw [show (1 + (n : Int)) = ((1 + n : Nat) : Int) by omega]
  refine (HNW.out _).mono ?_
  rintro e w1 ⟨a, b, rfl, hA, ha, hb, hm⟩
  have hs : w.heap.size < w1.heap.size := by have := hm.size; simp only [World.size_alloc] at this; omega
  have hrow : w1.heap[w.heap.size]? = some (.cells #[.pointer none, .int .i64 0, .nilFunc] 81 (0, 0)) := (hm.block _ (by simp only [World.size_alloc]; omega)).trans (heap_alloc_new _ _)
  have k0 : w1.cell? ⟨w.heap.size, 0, none⟩ = some (.pointer none) := by rw [cell_of_row _ _ _ _ _ _ hrow]; rfl
  have k1 : w1.cell? ⟨w.heap.size, 1, none⟩ = some (.int .i64 0) := by rw [cell_of_row _ _ _ _ _ _ hrow]; rfl
  have k2 : w1.cell? ⟨w.heap.size, 2, none⟩ = some .nilFunc := by rw [cell_of_row _ _ _ _ _ _ hrow]; rfl
  have z0 : w1.frozen? ⟨w.heap.size, 0, none⟩ = false := frozen_of_row _ _ _ _ _ hrow
  have z1 : w1.frozen? ⟨w.heap.size, 1, none⟩ = false := frozen_of_row _ _ _ _ _ hrow
  have z2 : w1.frozen? ⟨w.heap.size, 2, none⟩ = false := frozen_of_row _ _ _ _ _ hrow
  go_wp2_with fail
  have r1 := row_set (o := 2) (row_set (o := 1) (row_set (o := 0) hrow (.pointer (some ⟨a, 0, none⟩))) (.int .i64 0)) (.func (.func 76) #[] #[])
  have hoth : ∀ k : Nat, k ≠ w.heap.size → (((w1.setCell ⟨w.heap.size, 0, none⟩ (.pointer (some ⟨a, 0, none⟩))).setCell ⟨w.heap.size, 1, none⟩ (.int .i64 0)).setCell ⟨w.heap.size, 2, none⟩ (.func (.func 76) #[] #[])).heap[k]? = w1.heap[k]? := fun k hk => by
    rw [Cell.heap_setCell_other _ _ _ _ _ hk, Cell.heap_setCell_other _ _ _ _ _ hk, Cell.heap_setCell_other _ _ _ _ _ hk]
  simp only [World.size_alloc] at ha hb
  have hA2 := arena_same hA (hoth a (by omega)) (hoth b (by omega))
  have hm2 : Made w (((w1.setCell ⟨w.heap.size, 0, none⟩ (.pointer (some ⟨a, 0, none⟩))).setCell ⟨w.heap.size, 1, none⟩ (.int .i64 0)).setCell ⟨w.heap.size, 2, none⟩ (.func (.func 76) #[] #[])) := by
    have hmm := Made.trans ((Made.refl w).alloc (Nat.le_refl _) _) hm
    exact ⟨hmm.os, hmm.tape, hmm.output, by simpa [World.setCell] using hmm.size, fun k hk => (hoth k (by omega)).trans (hmm.block k hk)⟩
  generalize (((w1.setCell ⟨w.heap.size, 0, none⟩ (.pointer (some ⟨a, 0, none⟩))).setCell ⟨w.heap.size, 1, none⟩ (.int .i64 0)).setCell ⟨w.heap.size, 2, none⟩ (.func (.func 76) #[] #[])) = w2 at *
  have q0 : w2.cell? ⟨w.heap.size, 0, none⟩ = some (.pointer (some ⟨a, 0, none⟩)) := by rw [cell_of_row _ _ _ _ _ _ r1]; rfl
  have q1 : w2.cell? ⟨w.heap.size, 1, none⟩ = some (.int .i64 0) := by rw [cell_of_row _ _ _ _ _ _ r1]; rfl
  have q2 : w2.cell? ⟨w.heap.size, 2, none⟩ = some (.func (.func 76) #[] #[]) := by rw [cell_of_row _ _ _ _ _ _ r1]; rfl
  have ha' : w.heap.size ≤ a := by omega
  have hb' : w.heap.size ≤ b := by omega
  have HZ := Lib.hid (show (Try.prog.info? 81).map (·.size) = some 3 by kernel_rfl)
  refine bodyPost_ret (results_cell_tmp1 rfl _ _ w.heap.size 81 #[.pointer (some ⟨a, 0, none⟩), .int .i64 0, .func (.func 76) #[] #[]] (0, 0) _ ?hp ?hg Try.underlying81 rfl HZ.out) rfl ?_
  case hp => simp [Act.put]
  case hg => exact r1
  exact ⟨a, b, rfl, hA2, ha', hb', hm2⟩
end Go.Proofs.Ythllplocbciepaa.Kod.Eight
