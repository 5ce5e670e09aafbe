/- Package knellref06, walked: Slot, Word, Turn, Between, Next. -/
import Derived.Test.YthllplocbciepaaRef6
namespace Go.Proofs.Ythllplocbciepaa.Ref6
open Go.RowKit Go.Proofs.Ythllplocbciepaa Go.Proofs.Ythllplocbciepaa.Num Go.Proofs.Ythllplocbciepaa.SetN Go.Proofs.Ythllplocbciepaa.Bits Go.Proofs.Ythllplocbciepaa.Law6
set_option linter.unusedVariables false
set_option linter.unusedSimpArgs false

theorem Slot_c (i : Int) (b : Bool) (hb : b = decide (0 ≤ i ∧ i < 64)) (w : World) : Calls Try.prog 25 #[.int .i64 i] w fun e w' => e = .returned (.bool b) ∧ w = w' := by
  by_cases h0 : 0 ≤ i
  · by_cases h1 : i < 64
    · obtain rfl : b = true := by rw [hb]; exact decide_eq_true ⟨h0, h1⟩
      clear hb
      go_enter Try.func25, Try.ntmps25
      go_wp2
      go_ret
      exact ⟨by first | rfl | (congr 1; simp; omega), rfl⟩
    · obtain rfl : b = false := by rw [hb]; exact decide_eq_false (by omega)
      clear hb
      go_enter Try.func25, Try.ntmps25
      go_wp2
      go_ret
      exact ⟨by first | rfl | (simp; omega), rfl⟩
  · obtain rfl : b = false := by rw [hb]; exact decide_eq_false (by omega)
    clear hb
    go_enter Try.func25, Try.ntmps25
    go_wp2
    go_ret
    exact ⟨by first | rfl | (simp; omega), rfl⟩

theorem half (t k : Nat) : t / 2 ^ k = t / 2 ^ (k + 1) * 2 + (if t.testBit k = true then 1 else 0) := by
  rw [Nat.testBit_eq_decide_div_mod_eq, Nat.pow_succ, ← Nat.div_div_eq_div_mul]
  split <;> rename_i h <;> simp at h <;> omega
theorem quo_lt (t k : Nat) (ht : t < 2 ^ 64) : t / 2 ^ k < 2 ^ 64 := Nat.lt_of_le_of_lt (Nat.div_le_self _ _) ht

set_option maxRecDepth 100000 in
set_option maxHeartbeats 1000000 in
theorem Word_c (t : Nat) (ht : t < 2 ^ 64) (w : World) : Calls Try.prog 26 #[.agg (brow t.testBit)] w fun e w' => e = .returned (.int .u64 (t : Int)) ∧ Made w w' := by
  have HT := Lib.hid ht
  have hq0 : Hid (0 = t / 2 ^ 64) := by show _ = _; rw [Nat.div_eq_of_lt ht]
  obtain ⟨R, hR⟩ : ∃ R, R = brow t.testBit := ⟨_, rfl⟩
  have HR := Lib.hid hR
  rw [← hR]
  clear ht hR
  go_enter Try.func26, Try.ntmps26
  go_wp2_with fail
  have HB : Hid ((w.alloc (.cells R 37)).heap[w.heap.size]? = some (.cells R 37 (0, 0))) := Go.heap_alloc_new w _
  have hcell : Hid (∀ k, k < 64 → (w.alloc (.cells R 37)).cell? ⟨w.heap.size, k, none⟩ = some (.bool (t.testBit k))) := fun k hk => by
    rw [cell_of_row _ _ _ _ _ _ HB.out, HR.out, brow_get _ _ hk]
  go_loop [3, 4] (fun a i => ∃ k v : Nat, k ≤ 64 ∧ i = .int .i64 ((k : Int) - 1) ∧ a = .int .u64 (v : Int) ∧ Hid (v = t / 2 ^ k)) (fun _ i => (intOf i + 1).toNat)
  case atStart => exact ⟨64, 0, by omega, by go_num, rfl, hq0⟩
  case round =>
    obtain ⟨k, v, hk, rfl, rfl, HV⟩ := hrel
    cases k with
    | zero =>
      go_wp2_with fail
      go_ret
      exact ⟨Bits.ret_of (by rw [HV.out]; simp), (Made.refl w).alloc (Nat.le_refl _) _⟩
    | succ j =>
      have c := hcell.out j (by omega)
      have h2 := half t j
      have hlt := quo_lt t j HT.out
      rw [← HV.out] at h2
      obtain ⟨b, hb⟩ : ∃ b, b = t.testBit j := ⟨_, rfl⟩
      rw [← hb] at c h2
      have hj0 : ((j + 1 : Nat) : Int) - 1 = (j : Int) := by omega
      rw [hj0]
      have hj1 : (j : Int) < 64 := by omega
      cases b
      · simp only [Bool.false_eq_true, if_false] at h2
        have hv2 : v * 2 < 18446744073709551616 := by omega
        have HV2 : Hid (v * 2 = t / 2 ^ j) := by show _ = _; omega
        clear hb HV h2 hlt
        go_wp2_with fail
        go_round
        case rel => exact ⟨j, v * 2, by omega, by go_num, by go_num, HV2⟩
        case measure => simp [intOf]
      · simp only [if_true] at h2
        have hv2 : v * 2 + 1 < 18446744073709551616 := by omega
        have HV2 : Hid (v * 2 + 1 = t / 2 ^ j) := by show _ = _; omega
        clear hb HV h2 hlt
        go_wp2_with fail
        go_round
        case rel => exact ⟨j, v * 2 + 1, by omega, by go_num, by go_num, HV2⟩
        case measure => simp [intOf]

/-- The row with one slot turned. -/
def turnF (f : Nat → Bool) (i : Int) (b : Bool) : Nat → Bool := fun j => if (j : Int) = i then b else f j
set_option maxRecDepth 100000 in
set_option maxHeartbeats 1000000 in
theorem Turn_c (f : Nat → Bool) (i : Int) (b : Bool) (w : World) : Calls Try.prog 27 #[.agg (brow f), .int .i64 i, .bool b] w fun e w' => e = .returned (.agg (brow (turnF f i b))) ∧ Made w w' := by
  have HSZ := Lib.hid szS
  obtain ⟨R, hR⟩ : ∃ R, R = brow f := ⟨_, rfl⟩
  have HR := Lib.hid hR
  rw [← hR]
  clear hR
  have hB0 : Below w.heap.size w ((w.alloc (.cells R 37)).alloc (.cells Z64 37)) := ((Below.refl _ w).alloc (Nat.le_refl _) _).alloc (by simp) _
  have HB0 := Lib.hid hB0
  clear hB0
  by_cases h : 0 ≤ i ∧ i < 64
  · obtain ⟨n, rfl⟩ := Int.eq_ofNat_of_zero_le h.1
    have hn : n < 64 := by omega
    have HSL := Lib.hid (fun w => Slot_c (n : Int) true (decide_eq_true h).symm w)
    have H1 : Hid (((w.alloc (.cells R 37)).alloc (.cells Z64 37)).heap[w.heap.size]? = some (.cells R 37 (0, 0))) := heap_alloc2_old _ _ _
    have H2 : Hid (((w.alloc (.cells R 37)).alloc (.cells Z64 37)).heap[w.heap.size + 1]? = some (.cells Z64 37 (0, 0))) := heap_alloc2_new _ _ _
    have hc : ((w.alloc (.cells R 37)).alloc (.cells Z64 37)).cell? ⟨w.heap.size, n, none⟩ = some (.bool (f n)) := by rw [cell_of_row _ _ _ _ _ _ H1.out, HR.out, brow_get _ _ hn]
    have hf : ((w.alloc (.cells R 37)).alloc (.cells Z64 37)).frozen? ⟨w.heap.size, n, none⟩ = false := frozen_of_row _ _ _ _ _ H1.out
    generalize hW : (w.alloc (.cells R 37)).alloc (.cells Z64 37) = W at H1 H2 hc hf HB0
    have H1' : Hid ((W.setCell ⟨w.heap.size, n, none⟩ (.bool b)).heap[w.heap.size]? = some (.cells (brow (turnF f n b)) 37 (0, 0))) := by
      show _ = _
      rw [heap_setCell_same _ _ _ _ _ _ H1.out, HR.out, brow_set]
      congr 2
      apply brow_congr; intro j _; unfold turnF
      by_cases e : j = n
      · subst e; simp
      · rw [if_neg e, if_neg (by omega)]
    have H2' : Hid ((W.setCell ⟨w.heap.size, n, none⟩ (.bool b)).heap[w.heap.size + 1]? = some (.cells Z64 37 (0, 0))) := by
      show _ = _
      rw [heap_setCell_other _ _ _ _ (by simp)]; exact H2.out
    have hB2 : Below w.heap.size w (W.setCell ⟨w.heap.size, n, none⟩ (.bool b)) := HB0.out.setCell (by simp) _
    have hn1 : (n : Int) < 64 := by omega
    clear h
    go_enter Try.func27, Try.ntmps27
    go_wp2_with (refine wpList_alloc_zero rfl 37 rfl Z64 alS ?_)
    refine (HSL.out _).mono ?_
    rintro e w' ⟨rfl, rfl⟩
    go_wp2_with (first | (refine wpList_load_row rfl 37 (.tmp 3) rfl w.heap.size (by simp [Act.eval, Act.put]) 37 (brow (turnF f n b)) (0, 0) _ H1'.out Try.underlying37 rfl (by rw [HSZ.out, brow_size]) ?_) | (refine wpList_store_row rfl 37 (.tmp 6) (.tmp 12) rfl (w.heap.size + 1) (brow (turnF f n b)) (by simp [Act.eval, Act.put]) (by simp [Act.eval, Act.put]) 37 Z64 H2'.out (by rw [HSZ.out, brow_size]) (by rw [brow_size]; rfl) (brow_one _) ?_))
    exact bodyPost_ret (v := .agg (brow (turnF f n b))) (results_cell_row rfl _ _ (w.heap.size + 1) 37 (brow (turnF f n b)) (0, 0) _ (by simp [Act.put]) (heap_setRow_same _ _ _ _ _ _ H2'.out) Try.underlying37 rfl (by rw [HSZ.out, brow_size])) rfl
      ⟨rfl, Go.Proofs.Ythllplocbciepaa.Below.setRow hB2 (by omega) _⟩
  · have HSL := Lib.hid (fun w => Slot_c i false (decide_eq_false h).symm w)
    have he : R = brow (turnF f i b) := by
      rw [HR.out]; apply brow_congr; intro j hj; unfold turnF; rw [if_neg (by omega)]
    have HE := Lib.hid he
    have hRs : R.size = 64 := by rw [HR.out, brow_size]
    have hRo : R.all (·.oneCell') = true := by rw [HR.out]; exact brow_one _
    have HRS := Lib.hid (And.intro hRs hRo)
    have H1 : Hid (((w.alloc (.cells R 37)).alloc (.cells Z64 37)).heap[w.heap.size]? = some (.cells R 37 (0, 0))) := heap_alloc2_old _ _ _
    have H2 : Hid (((w.alloc (.cells R 37)).alloc (.cells Z64 37)).heap[w.heap.size + 1]? = some (.cells Z64 37 (0, 0))) := heap_alloc2_new _ _ _
    generalize hW : (w.alloc (.cells R 37)).alloc (.cells Z64 37) = W at H1 H2 HB0
    clear h he hRs hRo
    go_enter Try.func27, Try.ntmps27
    go_wp2_with (refine wpList_alloc_zero rfl 37 rfl Z64 alS ?_)
    refine (HSL.out _).mono ?_
    rintro e w' ⟨rfl, rfl⟩
    go_wp2_with (first | (refine wpList_load_row rfl 37 (.tmp 3) rfl w.heap.size (by simp [Act.eval, Act.put]) 37 R (0, 0) _ H1.out Try.underlying37 rfl (by rw [HSZ.out, HRS.out.1]) ?_) | (refine wpList_store_row rfl 37 (.tmp 6) (.tmp 12) rfl (w.heap.size + 1) R (by simp [Act.eval, Act.put]) (by simp [Act.eval, Act.put]) 37 Z64 H2.out (by rw [HSZ.out, HRS.out.1]) (by rw [HRS.out.1]; rfl) HRS.out.2 ?_))
    exact bodyPost_ret (v := .agg R) (results_cell_row rfl _ _ (w.heap.size + 1) 37 R (0, 0) _ (by simp [Act.put]) (heap_setRow_same _ _ _ _ _ _ H2.out) Try.underlying37 rfl (by rw [HSZ.out, HRS.out.1])) rfl
      ⟨by rw [HE.out], Go.Proofs.Ythllplocbciepaa.Below.setRow HB0.out (by omega) _⟩
end Go.Proofs.Ythllplocbciepaa.Ref6
