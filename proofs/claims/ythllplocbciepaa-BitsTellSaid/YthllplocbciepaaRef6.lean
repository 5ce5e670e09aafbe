/- Package knellref06, walked: sets as rows of 64 bools. -/
import Derived.Test.YthllplocbciepaaLaw6c
namespace Go.Proofs.Ythllplocbciepaa.Ref6
open Go.RowKit Go.Proofs.Ythllplocbciepaa Go.Proofs.Ythllplocbciepaa.Num Go.Proofs.Ythllplocbciepaa.SetN Go.Proofs.Ythllplocbciepaa.Bits Go.Proofs.Ythllplocbciepaa.Law6
set_option linter.unusedVariables false
set_option linter.unusedSimpArgs false

/-- A row of 64 bools. -/
def brow (f : Nat → Bool) : Array Value := ((List.range 64).map fun i => Value.bool (f i)).toArray
theorem brow_size (f : Nat → Bool) : (brow f).size = 64 := by simp [brow]
theorem brow_get (f : Nat → Bool) (i : Nat) (h : i < 64) : (brow f)[i]? = some (.bool (f i)) := by simp [brow, h]
theorem brow_one (f : Nat → Bool) : (brow f).all (·.oneCell') = true := by
  rw [Array.all_eq_true_iff_forall_mem]
  intro x hx
  simp only [brow, List.mem_toArray, List.mem_map] at hx
  obtain ⟨i, _, rfl⟩ := hx
  rfl
theorem brow_congr {f g : Nat → Bool} (h : ∀ i, i < 64 → f i = g i) : brow f = brow g := by
  unfold brow
  congr 1
  apply List.map_congr_left
  intro i hi
  rw [h i (List.mem_range.1 hi)]
theorem brow_set (f : Nat → Bool) (i : Nat) (b : Bool) : (brow f).setIfInBounds i (.bool b) = brow (fun j => if j = i then b else f j) := by
  apply Array.ext_getElem?
  intro j
  by_cases hj : j < 64
  · rw [Array.getElem?_setIfInBounds, brow_get _ _ hj, brow_get _ _ hj]
    by_cases e : i = j
    · subst e; simp [brow_size, hj]
    · rw [if_neg e, if_neg (fun e' => e e'.symm)]
  · rw [Array.getElem?_eq_none (by simp [brow_size]; omega), Array.getElem?_eq_none (by simp [brow_size]; omega)]
def Z64 : Array Value := brow (fun _ => false)
theorem al64 (w : World) : (Instr.alloc 36 true (.tuple #[])).run Try.prog w = .ok (.pointer (some ⟨w.heap.size, 0, none⟩)) (w.alloc (.cells Z64 36)) := by kernel_rfl
theorem alS (w : World) : (Instr.alloc 37 true (.tuple #[])).run Try.prog w = .ok (.pointer (some ⟨w.heap.size, 0, none⟩)) (w.alloc (.cells Z64 37)) := by kernel_rfl
theorem blS : Try.prog.built 37 [] = some Z64 := by kernel_rfl
theorem szS : (Try.prog.info? 37).map (·.size) = some 64 := by kernel_rfl

/-- The first k slots of a word. -/
def lowF (x k : Nat) : Nat → Bool := fun i => decide (i < k) && x.testBit i
theorem lowF_succ (x k : Nat) : brow (fun j => if j = k then x.testBit k else lowF x k j) = brow (lowF x (k + 1)) := by
  apply brow_congr
  intro i _
  unfold lowF
  by_cases e : i = k
  · subst e; simp
  · rw [if_neg e]
    congr 1
    rw [decide_eq_decide]; omega
theorem lowF_zero (x : Nat) : brow (lowF x 0) = Z64 := by
  unfold Z64; apply brow_congr; intro i _; simp [lowF]
theorem lowF_all (x : Nat) : brow (lowF x 64) = brow x.testBit := by
  apply brow_congr; intro i h; simp [lowF, h]

theorem rem_bool (q : Nat) : ((q : Int) % 2 == 1) = decide (q % 2 = 1) := by
  rw [Bool.eq_iff_iff, beq_iff_eq, decide_eq_true_iff]; omega

set_option maxRecDepth 100000 in
set_option maxHeartbeats 1000000 in
theorem Of_c (x : Nat) (hx : x < 2 ^ 64) (w : World) : Calls Try.prog 24 #[.int .u64 x] w fun e w' => e = .returned (.agg (brow x.testBit)) ∧ Made w w' := by
  have HSZ := Lib.hid szS
  have HX := Lib.hid hx
  go_enter Try.func24, Try.ntmps24
  go_wp2_with (first | (refine wpList_alloc_zero rfl 37 rfl Z64 alS ?_) | (refine wpList_build_zero rfl 37 rfl Z64 blS ?_) | (refine wpList_store_row rfl 37 (.tmp 3) (.tmp 5) rfl (w.heap.size + 1) Z64 (by simp [Act.eval, Act.put]) (by simp [Act.eval, Act.put]) 37 Z64 (heap_alloc2_new _ _ _) (by rw [HSZ.out]; rfl) rfl (brow_one _) ?_))
  have hw0 : ((w.alloc (.cells Z64 37)).alloc (.cells Z64 37)).setRow (w.heap.size + 1) Z64 = (w.alloc (.cells Z64 37)).alloc (.cells Z64 37) := by
    have := World.setRow_alloc_new (w.alloc (.cells Z64 37)) Z64 Z64 37
    rwa [show (w.alloc (.cells Z64 37)).heap.size = w.heap.size + 1 by simp] at this
  rw [hw0]
  clear hw0 hx
  go_loopw [0, 4] (fun n i wr => ∃ (k q : Nat), k ≤ 64 ∧ i = .int .i64 k ∧ n = .int .u64 q ∧ q < 2 ^ 64 ∧ Hid (q = x / 2 ^ k) ∧ Below w.heap.size w wr ∧ w.heap.size + 1 < wr.heap.size ∧
      Hid (wr.heap[w.heap.size]? = some (.cells Z64 37 (0, 0))) ∧ Hid (wr.heap[w.heap.size + 1]? = some (.cells (brow (lowF x k)) 37 (0, 0))))
    (fun _ i _ => (64 - intOf i).toNat)
  case atStart =>
    refine ⟨0, x, by omega, rfl, rfl, HX.out, ?_, ((Below.refl _ w).alloc (Nat.le_refl _) _).alloc (by simp) _, by simp, heap_alloc2_old _ _ _, ?_⟩
    · show _ = _; simp
    · show _ = _; rw [lowF_zero]; exact heap_alloc2_new _ _ _
  case round =>
    obtain ⟨k, q, hk, rfl, rfl, hq, HQ, hB, hsz, H1, H2⟩ := hrel
    by_cases hlt : k < 64
    · have hc : wr.cell? ⟨w.heap.size + 1, k, none⟩ = some (.bool (lowF x k k)) := by
        rw [cell_of_row _ _ _ _ _ _ H2.out, brow_get _ _ hlt]
      have hf : wr.frozen? ⟨w.heap.size + 1, k, none⟩ = false := frozen_of_row _ _ _ _ _ H2.out
      have hbit : x.testBit k = decide (q % 2 = 1) := by rw [HQ.out, Nat.testBit_eq_decide_div_mod_eq]
      obtain ⟨b, hb⟩ : ∃ b : Bool, ((q : Int) % 2 == 1) = b := ⟨_, rfl⟩
      have HBB : Hid (x.testBit k = b) := by show _ = _; rw [hbit, ← hb, rem_bool]
      have HQ2 : Hid (q / 2 = x / 2 ^ (k + 1)) := by show _ = _; rw [HQ.out, Nat.div_div_eq_div_mul, Nat.pow_succ]
      generalize lowF x k k = was at hc
      clear hbit
      go_wp2_with fail
      go_roundw
      case rel =>
        refine ⟨k + 1, q / 2, by omega, by go_num, by go_num, Nat.lt_of_le_of_lt (Nat.div_le_self _ _) hq, HQ2, hB.setCell (by simp) _, by simpa [World.setCell] using hsz, ?_, ?_⟩
        · show _ = _
          rw [heap_setCell_other _ _ _ _ (by simp)]; exact H1.out
        · show _ = _
          rw [heap_setCell_same _ _ _ _ _ _ H2.out, ← lowF_succ x k, ← brow_set, HBB.out]
      case measure => simp [intOf]; omega
    · obtain rfl : k = 64 := by omega
      go_wp2_with (first | (refine wpList_load_row rfl 37 (.tmp 3) rfl (w.heap.size + 1) (by simp [Act.eval, Act.put]) 37 (brow (lowF x 64)) (0, 0) _ H2.out Try.underlying37 rfl (by rw [HSZ.out, brow_size]) ?_) | (refine wpList_store_row rfl 37 (.tmp 2) (.tmp 17) rfl w.heap.size (brow (lowF x 64)) (by simp [Act.eval, Act.put]) (by simp [Act.eval, Act.put]) 37 Z64 H1.out (by rw [HSZ.out, brow_size]) (by rw [brow_size]; rfl) (brow_one _) ?_))
      exact bodyPost_ret (v := .agg (brow (lowF x 64))) (results_cell_row rfl _ _ w.heap.size 37 (brow (lowF x 64)) (0, 0) _ (by simp [Act.put]) (heap_setRow_same _ _ _ _ _ _ H1.out) Try.underlying37 rfl (by rw [HSZ.out, brow_size])) rfl
        ⟨by rw [lowF_all], Go.Proofs.Ythllplocbciepaa.Below.setRow hB (Nat.le_refl _) _⟩
end Go.Proofs.Ythllplocbciepaa.Ref6
