/- Package plan, walked: a configuration's numbers. -/
import Derived.Test.YtnkcekgjppkbpaaBase
import Derived.Test.YtnkcekgjppkbpaaArr
namespace Go.Proofs.Ytnkcekgjppkbpaa.Plan
open Go.RowKit Go.Proofs.Ytnkcekgjppkbpaa
set_option linter.unusedVariables false
set_option linter.unusedSimpArgs false

/-- Thirteen numbers, by value. -/
def nums (xs : List Int) : Value := .agg (xs.map (Value.int .i64)).toArray
def Z13 : Array Value := #[.int .i64 0, .int .i64 0, .int .i64 0, .int .i64 0, .int .i64 0, .int .i64 0, .int .i64 0, .int .i64 0, .int .i64 0, .int .i64 0, .int .i64 0, .int .i64 0, .int .i64 0]
theorem thirteen {α : Type} (l : List α) (h : l.length = 13) : ∃ a0 a1 a2 a3 a4 a5 a6 a7 a8 a9 a10 a11 a12, l = [a0, a1, a2, a3, a4, a5, a6, a7, a8, a9, a10, a11, a12] := by
  match l, h with
  | [a0, a1, a2, a3, a4, a5, a6, a7, a8, a9, a10, a11, a12], _ => exact ⟨a0, a1, a2, a3, a4, a5, a6, a7, a8, a9, a10, a11, a12, rfl⟩
theorem heap_alloc2_new (w : World) (A B : Obj) : ((w.alloc A).alloc B).heap[w.heap.size + 1]? = some B := by
  show (w.alloc A |>.heap.push B)[w.heap.size + 1]? = some B
  rw [show w.heap.size + 1 = (w.alloc A).heap.size by simp]
  exact Array.getElem?_push_size
theorem one13 (a0 a1 a2 a3 a4 a5 a6 a7 a8 a9 a10 a11 a12 : Int) : (#[.int .i64 a0, .int .i64 a1, .int .i64 a2, .int .i64 a3, .int .i64 a4, .int .i64 a5, .int .i64 a6, .int .i64 a7, .int .i64 a8, .int .i64 a9, .int .i64 a10, .int .i64 a11, .int .i64 a12] : Array Value).all (·.oneCell') = true := by simp [Value.oneCell']
theorem al_List (w : World) : (Instr.alloc 22 true (.tuple #[])).run Try.prog w = .ok (.pointer (some ⟨w.heap.size, 0, none⟩)) (w.alloc (.cells Z13 22)) := by kernel_rfl
theorem al_OfC (w : World) : (Instr.alloc 28 true (.tuple #[])).run Try.prog w = .ok (.pointer (some ⟨w.heap.size, 0, none⟩)) (w.alloc (.cells Z13 28)) := by kernel_rfl
theorem al_Of (w : World) : (Instr.alloc 28 true (.tuple #[])).run Try.prog w = .ok (.pointer (some ⟨w.heap.size, 0, none⟩)) (w.alloc (.cells Z13 28)) := by kernel_rfl

set_option maxRecDepth 100000 in
set_option maxHeartbeats 600000 in
theorem List13 (a0 a1 a2 a3 a4 a5 a6 a7 a8 a9 a10 a11 a12 : Int) (w : World) : Calls Try.prog 15 #[.agg #[.int .i64 a0, .int .i64 a1, .int .i64 a2, .int .i64 a3, .int .i64 a4, .int .i64 a5, .int .i64 a6, .int .i64 a7, .int .i64 a8, .int .i64 a9, .int .i64 a10, .int .i64 a11, .int .i64 a12]] w fun e w' => e = .returned (.agg #[.int .i64 a0, .int .i64 a1, .int .i64 a2, .int .i64 a3, .int .i64 a4, .int .i64 a5, .int .i64 a6, .int .i64 a7, .int .i64 a8, .int .i64 a9, .int .i64 a10, .int .i64 a11, .int .i64 a12]) ∧ Made w w' := by
  have HZ := Lib.hid (show (Try.prog.info? 22).map (·.size) = some 13 by kernel_rfl)
  go_enter Try.func15, Try.ntmps15
  go_wp2_with (first | (refine wpList_alloc_zero rfl 22 rfl Z13 al_List ?_) | (refine wpList_store_row rfl 22 (.tmp 2) (.tmp 29) rfl (w.heap.size + 1) #[.int .i64 a0, .int .i64 a1, .int .i64 a2, .int .i64 a3, .int .i64 a4, .int .i64 a5, .int .i64 a6, .int .i64 a7, .int .i64 a8, .int .i64 a9, .int .i64 a10, .int .i64 a11, .int .i64 a12] (by simp [Act.eval, Act.put]) (by simp [Act.eval, Act.put]) 22 Z13 (heap_alloc2_new _ _ _) HZ.out rfl (one13 _ _ _ _ _ _ _ _ _ _ _ _ _) ?_))
  refine bodyPost_ret (v := .agg #[.int .i64 a0, .int .i64 a1, .int .i64 a2, .int .i64 a3, .int .i64 a4, .int .i64 a5, .int .i64 a6, .int .i64 a7, .int .i64 a8, .int .i64 a9, .int .i64 a10, .int .i64 a11, .int .i64 a12]) (results_cell_row rfl _ _ (w.heap.size + 1) 22 #[.int .i64 a0, .int .i64 a1, .int .i64 a2, .int .i64 a3, .int .i64 a4, .int .i64 a5, .int .i64 a6, .int .i64 a7, .int .i64 a8, .int .i64 a9, .int .i64 a10, .int .i64 a11, .int .i64 a12] (0, 0) _ (by simp [Act.put]) (heap_setRow_same _ _ _ _ _ _ (heap_alloc2_new _ _ _)) Try.underlying22 rfl HZ.out) rfl ⟨rfl, ?_⟩
  exact Below.setRow (((Made.refl w).alloc (Nat.le_refl _) _).alloc (by simp) _) (by omega) _
theorem List_c (xs : List Int) (h : xs.length = 13) (w : World) : Calls Try.prog 15 #[nums xs] w fun e w' => e = .returned (nums xs) ∧ Made w w' := by
  obtain ⟨a0, a1, a2, a3, a4, a5, a6, a7, a8, a9, a10, a11, a12, rfl⟩ := thirteen xs h
  exact List13 a0 a1 a2 a3 a4 a5 a6 a7 a8 a9 a10 a11 a12 w

set_option maxRecDepth 100000 in
set_option maxHeartbeats 600000 in
theorem OfC13 (a0 a1 a2 a3 a4 a5 a6 a7 a8 a9 a10 a11 a12 : Int) (w : World) : Calls Try.prog 16 #[.agg #[.int .i64 a0, .int .i64 a1, .int .i64 a2, .int .i64 a3, .int .i64 a4, .int .i64 a5, .int .i64 a6, .int .i64 a7, .int .i64 a8, .int .i64 a9, .int .i64 a10, .int .i64 a11, .int .i64 a12]] w fun e w' => e = .returned (.agg #[.int .i64 a0, .int .i64 a1, .int .i64 a2, .int .i64 a3, .int .i64 a4, .int .i64 a5, .int .i64 a6, .int .i64 a7, .int .i64 a8, .int .i64 a9, .int .i64 a10, .int .i64 a11, .int .i64 a12]) ∧ Made w w' := by
  have HZ := Lib.hid (show (Try.prog.info? 28).map (·.size) = some 13 by kernel_rfl)
  go_enter Try.func16, Try.ntmps16
  go_wp2_with (first | (refine wpList_alloc_zero rfl 28 rfl Z13 al_OfC ?_) | (refine wpList_store_row rfl 28 (.tmp 2) (.tmp 29) rfl (w.heap.size + 1) #[.int .i64 a0, .int .i64 a1, .int .i64 a2, .int .i64 a3, .int .i64 a4, .int .i64 a5, .int .i64 a6, .int .i64 a7, .int .i64 a8, .int .i64 a9, .int .i64 a10, .int .i64 a11, .int .i64 a12] (by simp [Act.eval, Act.put]) (by simp [Act.eval, Act.put]) 28 Z13 (heap_alloc2_new _ _ _) HZ.out rfl (one13 _ _ _ _ _ _ _ _ _ _ _ _ _) ?_))
  refine bodyPost_ret (v := .agg #[.int .i64 a0, .int .i64 a1, .int .i64 a2, .int .i64 a3, .int .i64 a4, .int .i64 a5, .int .i64 a6, .int .i64 a7, .int .i64 a8, .int .i64 a9, .int .i64 a10, .int .i64 a11, .int .i64 a12]) (results_cell_row rfl _ _ (w.heap.size + 1) 28 #[.int .i64 a0, .int .i64 a1, .int .i64 a2, .int .i64 a3, .int .i64 a4, .int .i64 a5, .int .i64 a6, .int .i64 a7, .int .i64 a8, .int .i64 a9, .int .i64 a10, .int .i64 a11, .int .i64 a12] (0, 0) _ (by simp [Act.put]) (heap_setRow_same _ _ _ _ _ _ (heap_alloc2_new _ _ _)) Try.underlying28 rfl HZ.out) rfl ⟨rfl, ?_⟩
  exact Below.setRow (((Made.refl w).alloc (Nat.le_refl _) _).alloc (by simp) _) (by omega) _
theorem OfC_c (xs : List Int) (h : xs.length = 13) (w : World) : Calls Try.prog 16 #[nums xs] w fun e w' => e = .returned (nums xs) ∧ Made w w' := by
  obtain ⟨a0, a1, a2, a3, a4, a5, a6, a7, a8, a9, a10, a11, a12, rfl⟩ := thirteen xs h
  exact OfC13 a0 a1 a2 a3 a4 a5 a6 a7 a8 a9 a10 a11 a12 w

set_option maxRecDepth 100000 in
set_option maxHeartbeats 600000 in
theorem Of13 (a0 a1 a2 a3 a4 a5 a6 a7 a8 a9 a10 a11 a12 : Int) (w : World) : Calls Try.prog 18 #[.agg #[.int .i64 a0, .int .i64 a1, .int .i64 a2, .int .i64 a3, .int .i64 a4, .int .i64 a5, .int .i64 a6, .int .i64 a7, .int .i64 a8, .int .i64 a9, .int .i64 a10, .int .i64 a11, .int .i64 a12]] w fun e w' => e = .returned (.agg #[.int .i64 a0, .int .i64 a1, .int .i64 a2, .int .i64 a3, .int .i64 a4, .int .i64 a5, .int .i64 a6, .int .i64 a7, .int .i64 a8, .int .i64 a9, .int .i64 a10, .int .i64 a11, .int .i64 a12]) ∧ Made w w' := by
  have HZ := Lib.hid (show (Try.prog.info? 28).map (·.size) = some 13 by kernel_rfl)
  go_enter Try.func18, Try.ntmps18
  go_wp2_with (first | (refine wpList_alloc_zero rfl 28 rfl Z13 al_Of ?_) | (refine wpList_store_row rfl 28 (.tmp 2) (.tmp 29) rfl (w.heap.size + 1) #[.int .i64 a0, .int .i64 a1, .int .i64 a2, .int .i64 a3, .int .i64 a4, .int .i64 a5, .int .i64 a6, .int .i64 a7, .int .i64 a8, .int .i64 a9, .int .i64 a10, .int .i64 a11, .int .i64 a12] (by simp [Act.eval, Act.put]) (by simp [Act.eval, Act.put]) 28 Z13 (heap_alloc2_new _ _ _) HZ.out rfl (one13 _ _ _ _ _ _ _ _ _ _ _ _ _) ?_))
  refine bodyPost_ret (v := .agg #[.int .i64 a0, .int .i64 a1, .int .i64 a2, .int .i64 a3, .int .i64 a4, .int .i64 a5, .int .i64 a6, .int .i64 a7, .int .i64 a8, .int .i64 a9, .int .i64 a10, .int .i64 a11, .int .i64 a12]) (results_cell_row rfl _ _ (w.heap.size + 1) 28 #[.int .i64 a0, .int .i64 a1, .int .i64 a2, .int .i64 a3, .int .i64 a4, .int .i64 a5, .int .i64 a6, .int .i64 a7, .int .i64 a8, .int .i64 a9, .int .i64 a10, .int .i64 a11, .int .i64 a12] (0, 0) _ (by simp [Act.put]) (heap_setRow_same _ _ _ _ _ _ (heap_alloc2_new _ _ _)) Try.underlying28 rfl HZ.out) rfl ⟨rfl, ?_⟩
  exact Below.setRow (((Made.refl w).alloc (Nat.le_refl _) _).alloc (by simp) _) (by omega) _
theorem Of_c (xs : List Int) (h : xs.length = 13) (w : World) : Calls Try.prog 18 #[nums xs] w fun e w' => e = .returned (nums xs) ∧ Made w w' := by
  obtain ⟨a0, a1, a2, a3, a4, a5, a6, a7, a8, a9, a10, a11, a12, rfl⟩ := thirteen xs h
  exact Of13 a0 a1 a2 a3 a4 a5 a6 a7 a8 a9 a10 a11 a12 w

end Go.Proofs.Ytnkcekgjppkbpaa.Plan
