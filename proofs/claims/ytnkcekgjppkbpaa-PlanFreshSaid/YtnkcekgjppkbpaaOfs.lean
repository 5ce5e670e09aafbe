/- What stands in a word: StateOf, HomeOf, KeyOf, HeadOf, ConnOf, walked. -/
import Derived.Test.YtnkcekgjppkbpaaWords
namespace Go.Proofs.Ytnkcekgjppkbpaa.Wd
open Go.RowKit Go.Proofs.Ytnkcekgjppkbpaa Go.Proofs.Ytnkcekgjppkbpaa.Num
set_option linter.unusedVariables false
set_option linter.unusedSimpArgs false

theorem spread3 (x n1 n2 n3 : Nat) (hx : x < 2 ^ 64) (hn : 1 ≤ n1 ∧ 1 ≤ n2 ∧ 1 ≤ n3 ∧ n1 + n2 + n3 = 64) (b1 : Nat) (w : World) (hb1 : b1 < w.heap.size)
    (c1 : w.cell? ⟨b1, 0, none⟩ = some (.int .i64 (n1 : Int))) (c2 : w.cell? ⟨b1, 1, none⟩ = some (.int .i64 (n2 : Int))) (c3 : w.cell? ⟨b1, 2, none⟩ = some (.int .i64 (n3 : Int))) :
    Calls Try.prog 80 #[.int .u64 x, .slice (some ⟨b1, 0, none⟩) 3 3] w fun e w' =>
      e = .returned (.agg #[.int .i64 (getN x (64 - n1) n1 : Nat), .int .i64 (getN x n3 n2 : Nat), .int .i64 (getN x 0 n3 : Nat), .int .i64 0]) ∧ Made w w' := by
  refine (spread_c x [n1, n2, n3] b1 hx (by simp) ?_ ?_ w ?_ hb1).mono ?_
  · intro n hn'; simp at hn'; omega
  · simp; omega
  · intro k hk
    match k, hk with
    | 0, _ => exact c1
    | 1, _ => exact c2
    | 2, _ => exact c3
  · rintro e w' ⟨rfl, h⟩
    refine ⟨?_, h⟩
    have e1 : 64 - (n1 + n2) = n3 := by omega
    have e2 : 64 - (n1 + (n2 + n3)) = 0 := by omega
    simp [spreadTo, spreadAt, List.range, List.range.loop, e1, e2]
theorem spread2 (x n1 n2 : Nat) (hx : x < 2 ^ 64) (hn : 1 ≤ n1 ∧ 1 ≤ n2 ∧ n1 + n2 = 64) (b1 : Nat) (w : World) (hb1 : b1 < w.heap.size)
    (c1 : w.cell? ⟨b1, 0, none⟩ = some (.int .i64 (n1 : Int))) (c2 : w.cell? ⟨b1, 1, none⟩ = some (.int .i64 (n2 : Int))) :
    Calls Try.prog 80 #[.int .u64 x, .slice (some ⟨b1, 0, none⟩) 2 2] w fun e w' =>
      e = .returned (.agg #[.int .i64 (getN x n2 n1 : Nat), .int .i64 (getN x 0 n2 : Nat), .int .i64 0, .int .i64 0]) ∧ Made w w' := by
  refine (spread_c x [n1, n2] b1 hx (by simp) ?_ ?_ w ?_ hb1).mono ?_
  · intro n hn'; simp at hn'; omega
  · simp; omega
  · intro k hk
    match k, hk with
    | 0, _ => exact c1
    | 1, _ => exact c2
  · rintro e w' ⟨rfl, h⟩
    refine ⟨?_, h⟩
    have e1 : 64 - n1 = n2 := by omega
    have e2 : 64 - (n1 + n2) = 0 := by omega
    simp [spreadTo, spreadAt, List.range, List.range.loop, e1, e2]
theorem spread4 (x n1 n2 n3 n4 : Nat) (hx : x < 2 ^ 64) (hn : 1 ≤ n1 ∧ 1 ≤ n2 ∧ 1 ≤ n3 ∧ 1 ≤ n4 ∧ n1 + n2 + n3 + n4 = 64) (b1 : Nat) (w : World) (hb1 : b1 < w.heap.size)
    (c1 : w.cell? ⟨b1, 0, none⟩ = some (.int .i64 (n1 : Int))) (c2 : w.cell? ⟨b1, 1, none⟩ = some (.int .i64 (n2 : Int))) (c3 : w.cell? ⟨b1, 2, none⟩ = some (.int .i64 (n3 : Int))) (c4 : w.cell? ⟨b1, 3, none⟩ = some (.int .i64 (n4 : Int))) :
    Calls Try.prog 80 #[.int .u64 x, .slice (some ⟨b1, 0, none⟩) 4 4] w fun e w' =>
      e = .returned (.agg #[.int .i64 (getN x (64 - n1) n1 : Nat), .int .i64 (getN x (n3 + n4) n2 : Nat), .int .i64 (getN x n4 n3 : Nat), .int .i64 (getN x 0 n4 : Nat)]) ∧ Made w w' := by
  refine (spread_c x [n1, n2, n3, n4] b1 hx (by simp) ?_ ?_ w ?_ hb1).mono ?_
  · intro n hn'; simp at hn'; omega
  · simp; omega
  · intro k hk
    match k, hk with
    | 0, _ => exact c1
    | 1, _ => exact c2
    | 2, _ => exact c3
    | 3, _ => exact c4
  · rintro e w' ⟨rfl, h⟩
    refine ⟨?_, h⟩
    have e1 : 64 - (n1 + n2) = n3 + n4 := by omega
    have e2 : 64 - (n1 + (n2 + n3)) = n4 := by omega
    have e3 : 64 - (n1 + (n2 + (n3 + n4))) = 0 := by omega
    simp [spreadTo, spreadAt, List.range, List.range.loop, e1, e2, e3]

set_option maxHeartbeats 600000 in
theorem StateOf_c (x : Nat) (hx : x < 2 ^ 64) (w : World) : Calls Try.prog 56 #[.int .u64 x] w fun e w' =>
    e = .returned (.agg #[.int .i64 (getN x 32 32 : Nat), .int .i64 (getN x 2 30 : Nat), .int .i64 (getN x 0 2 : Nat)]) ∧ Made w w' := by
  have hz : (Try.prog.info? 82).map (·.size) = some 3 := by kernel_rfl
  have HZ := Lib.hid hz
  clear hz
  go_enter Try.func56, Try.ntmps56
  go_wp2_with fail
  refine (spread3 x 32 30 2 hx (by omega) _ _ (by simp) (by go_simp) (by go_simp) (by go_simp)).mono ?_
  rintro e w1 ⟨rfl, hM⟩
  have hs := hM.size
  simp at hs
  have hB0 : Below w.heap.size w w1 := Made.trans (((Made.refl w).alloc (Nat.le_refl _) _).alloc (by simp) _) hM
  have H0 : Hid (w1.heap[w.heap.size]? = some (.cells #[.int .i64 0, .int .i64 0, .int .i64 0] 82 (0, 0))) := (hM.block w.heap.size (by simp; omega)).trans (heap_alloc2_old _ _ _)
  clear hM
  have hlt : w.heap.size < w1.heap.size := by omega
  have c0 : w1.cell? ⟨w.heap.size, 0, none⟩ = some (.int .i64 0) := cell_of_row _ _ _ _ _ _ H0.out
  have f0 : w1.frozen? ⟨w.heap.size, 0, none⟩ = false := frozen_of_row _ _ _ _ _ H0.out
  have c1 : w1.cell? ⟨w.heap.size, 1, none⟩ = some (.int .i64 0) := cell_of_row _ _ _ _ _ _ H0.out
  have f1 : w1.frozen? ⟨w.heap.size, 1, none⟩ = false := frozen_of_row _ _ _ _ _ H0.out
  have c2 : w1.cell? ⟨w.heap.size, 2, none⟩ = some (.int .i64 0) := cell_of_row _ _ _ _ _ _ H0.out
  have f2 : w1.frozen? ⟨w.heap.size, 2, none⟩ = false := frozen_of_row _ _ _ _ _ H0.out
  go_wp2_with fail
  refine bodyPost_ret (v := .agg #[.int .i64 (getN x 32 32 : Nat), .int .i64 (getN x 2 30 : Nat), .int .i64 (getN x 0 2 : Nat)]) (results_cell_row rfl _ _ w.heap.size 82 #[.int .i64 (getN x 32 32 : Nat), .int .i64 (getN x 2 30 : Nat), .int .i64 (getN x 0 2 : Nat)] (0, 0) _ ?hp ?hg Try.underlying82 rfl HZ.out) rfl ⟨rfl, ?hb⟩
  case hp => simp
  case hg =>
    rw [Below.heap_alloc _ _ _ (by simp [World.setCell]; omega), heap_setCell_same _ _ _ _ _ _ (heap_setCell_same _ _ _ _ _ _ (heap_setCell_same _ _ _ _ _ _ H0.out))]
    simp
  case hb => exact Below.alloc (((hB0.setCell (by simp) _).setCell (by simp) _).setCell (by simp) _) (by simp [World.setCell]; omega) _
theorem low32 (x : Nat) : getN x 0 32 < 4294967296 := getN_lt x 0 32
set_option maxHeartbeats 600000 in
theorem HeadOf_c (x : Nat) (hx : x < 2 ^ 64) (w : World) : Calls Try.prog 57 #[.int .u64 x] w fun e w' =>
    e = .returned (.agg #[.int .i64 (getN x 32 32 : Nat), .int .i64 ((getN x 0 32 : Nat) - 1)]) ∧ Made w w' := by
  have hz : (Try.prog.info? 85).map (·.size) = some 2 := by kernel_rfl
  have HZ := Lib.hid hz
  clear hz
  have hlow := low32 x
  go_enter Try.func57, Try.ntmps57
  go_wp2_with fail
  refine (spread2 x 32 32 hx (by omega) _ _ (by simp) (by go_simp) (by go_simp)).mono ?_
  rintro e w1 ⟨rfl, hM⟩
  have hs := hM.size
  simp at hs
  have hB0 : Below w.heap.size w w1 := Made.trans (((Made.refl w).alloc (Nat.le_refl _) _).alloc (by simp) _) hM
  have H0 : Hid (w1.heap[w.heap.size]? = some (.cells #[.int .i64 0, .int .i64 0] 85 (0, 0))) := (hM.block w.heap.size (by simp; omega)).trans (heap_alloc2_old _ _ _)
  clear hM
  have hlt : w.heap.size < w1.heap.size := by omega
  have c0 : w1.cell? ⟨w.heap.size, 0, none⟩ = some (.int .i64 0) := cell_of_row _ _ _ _ _ _ H0.out
  have f0 : w1.frozen? ⟨w.heap.size, 0, none⟩ = false := frozen_of_row _ _ _ _ _ H0.out
  have c1 : w1.cell? ⟨w.heap.size, 1, none⟩ = some (.int .i64 0) := cell_of_row _ _ _ _ _ _ H0.out
  have f1 : w1.frozen? ⟨w.heap.size, 1, none⟩ = false := frozen_of_row _ _ _ _ _ H0.out
  go_wp2_with fail
  refine bodyPost_ret (v := .agg #[.int .i64 (getN x 32 32 : Nat), .int .i64 ((getN x 0 32 : Nat) - 1)]) (results_cell_row rfl _ _ w.heap.size 85 #[.int .i64 (getN x 32 32 : Nat), .int .i64 ((getN x 0 32 : Nat) - 1)] (0, 0) _ ?hp ?hg Try.underlying85 rfl HZ.out) rfl ⟨rfl, ?hb⟩
  case hp => simp
  case hg =>
    rw [Below.heap_alloc _ _ _ (by simp [World.setCell]; omega), heap_setCell_same _ _ _ _ _ _ (heap_setCell_same _ _ _ _ _ _ H0.out)]
    simp
  case hb => exact Below.alloc ((hB0.setCell (by simp) _).setCell (by simp) _) (by simp [World.setCell]; omega) _
end Go.Proofs.Ytnkcekgjppkbpaa.Wd
