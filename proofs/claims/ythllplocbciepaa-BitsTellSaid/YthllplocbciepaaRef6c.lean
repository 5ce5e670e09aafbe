/- Package knellref06, walked: Between, Next. -/
import Derived.Test.YthllplocbciepaaRef6b
namespace Go.Proofs.Ythllplocbciepaa.Ref6
open Go.RowKit Go.Proofs.Ythllplocbciepaa Go.Proofs.Ythllplocbciepaa.Num Go.Proofs.Ythllplocbciepaa.SetN Go.Proofs.Ythllplocbciepaa.Bits Go.Proofs.Ythllplocbciepaa.Law6
set_option linter.unusedVariables false
set_option linter.unusedSimpArgs false

/-- The row, as far as it is cut. -/
def cutF (f : Nat → Bool) (a b : Int) (k : Nat) : Nat → Bool := fun j => f j && (decide (k ≤ j) || (decide (a ≤ (j : Int)) && decide ((j : Int) ≤ b)))
theorem cutF_zero (f : Nat → Bool) (a b : Int) : brow (cutF f a b 0) = brow f := by
  apply brow_congr; intro i _; simp [cutF]
theorem cutF_succ (f : Nat → Bool) (a b : Int) (k : Nat) : brow (fun j => if j = k then (f k && decide (a ≤ (k : Int))) && decide ((k : Int) ≤ b) else cutF f a b k j) = brow (cutF f a b (k + 1)) := by
  apply brow_congr; intro i _
  unfold cutF
  by_cases e : i = k
  · subst e
    have e1 : decide (i + 1 ≤ i) = false := by simp
    rw [if_pos rfl, e1, Bool.false_or, Bool.and_assoc]
  · rw [if_neg e]
    congr 2
    rw [decide_eq_decide]; omega
theorem cutF_at (f : Nat → Bool) (a b : Int) (k : Nat) : cutF f a b k k = f k := by simp [cutF]
/-- What of a row lies between two slots. -/
def midF (f : Nat → Bool) (a b : Int) : Nat → Bool := fun j => f j && (decide (a ≤ (j : Int)) && decide ((j : Int) ≤ b))
theorem cutF_all (f : Nat → Bool) (a b : Int) : brow (cutF f a b 64) = brow (midF f a b) := by
  apply brow_congr; intro i h
  unfold cutF midF
  rw [show decide (64 ≤ i) = false by simp; omega]
  simp

set_option maxRecDepth 100000 in
set_option maxHeartbeats 2000000 in
theorem Between_c (f : Nat → Bool) (a b : Int) (w : World) : Calls Try.prog 30 #[.agg (brow f), .int .i64 a, .int .i64 b] w fun e w' => e = .returned (.agg (brow (midF f a b))) ∧ Made w w' := by
  have HSZ := Lib.hid szS
  obtain ⟨R, hR⟩ : ∃ R, R = brow f := ⟨_, rfl⟩
  have HR := Lib.hid hR
  rw [← hR]
  clear hR
  go_enter Try.func30, Try.ntmps30
  go_wp2_with (refine wpList_alloc_zero rfl 37 rfl Z64 alS ?_)
  go_loopw [7] (fun i wr => ∃ (k : Nat), k ≤ 64 ∧ i = .int .i64 k ∧ Below w.heap.size w wr ∧ w.heap.size + 1 < wr.heap.size ∧
      Hid (wr.heap[w.heap.size + 1]? = some (.cells Z64 37 (0, 0))) ∧ Hid (wr.heap[w.heap.size]? = some (.cells (brow (cutF f a b k)) 37 (0, 0))))
    (fun i _ => (64 - intOf i).toNat)
  case atStart =>
    refine ⟨0, by omega, rfl, ((Below.refl _ w).alloc (Nat.le_refl _) _).alloc (by simp) _, by simp, heap_alloc2_new _ _ _, ?_⟩
    show _ = _; rw [cutF_zero, ← HR.out]; exact heap_alloc2_old _ _ _
  case round =>
    obtain ⟨k, hk, rfl, hB, hsz, H2, H1⟩ := hrel
    by_cases hlt : k < 64
    · have hc : wr.cell? ⟨w.heap.size, k, none⟩ = some (.bool (f k)) := by
        rw [cell_of_row _ _ _ _ _ _ H1.out, brow_get _ _ hlt, cutF_at]
      have hf : wr.frozen? ⟨w.heap.size, k, none⟩ = false := frozen_of_row _ _ _ _ _ H1.out
      have hset : ∀ v : Bool, v = ((f k && decide (a ≤ (k : Int))) && decide ((k : Int) ≤ b)) → (wr.setCell ⟨w.heap.size, k, none⟩ (.bool v)).heap[w.heap.size]? = some (.cells (brow (cutF f a b (k + 1))) 37 (0, 0)) := fun v hv => by
        rw [heap_setCell_same _ _ _ _ _ _ H1.out, ← cutF_succ, ← hv, brow_set]
      have hoth : ∀ v : Bool, (wr.setCell ⟨w.heap.size, k, none⟩ (.bool v)).heap[w.heap.size + 1]? = some (.cells Z64 37 (0, 0)) := fun v => by
        rw [heap_setCell_other _ _ _ _ (by simp)]; exact H2.out
      have HSET := Lib.hid hset
      have HOTH := Lib.hid hoth
      clear hset hoth H1 H2
      generalize f k = fk at hc HSET
      have hk1 : (k : Int) < 64 := by omega
      cases fk
      · go_wp2_with fail
        go_roundw
        case rel => exact ⟨k + 1, by omega, by go_num, hB.setCell (Nat.le_refl _) _, by simpa [World.setCell] using hsz, HOTH.out _, HSET.out _ (by simp)⟩
        case measure => simp [intOf]; omega
      · by_cases ha : a ≤ (k : Int)
        · have ea : decide (a ≤ (k : Int)) = true := decide_eq_true ha
          go_wp2_with fail
          go_roundw
          case rel => exact ⟨k + 1, by omega, by go_num, hB.setCell (Nat.le_refl _) _, by simpa [World.setCell] using hsz, HOTH.out _, HSET.out _ (by simp [ha])⟩
          case measure => simp [intOf]; omega
        · have ea : decide (a ≤ (k : Int)) = false := decide_eq_false ha
          go_wp2_with fail
          go_roundw
          case rel => exact ⟨k + 1, by omega, by go_num, hB.setCell (Nat.le_refl _) _, by simpa [World.setCell] using hsz, HOTH.out _, HSET.out _ (by simp [ha])⟩
          case measure => simp [intOf]; omega
    · obtain rfl : k = 64 := by omega
      go_wp2_with (first | (refine wpList_load_row rfl 37 (.tmp 3) rfl w.heap.size (by simp [Act.eval, Act.put]) 37 (brow (cutF f a b 64)) (0, 0) _ H1.out Try.underlying37 rfl (by rw [HSZ.out, brow_size]) ?_) | (refine wpList_store_row rfl 37 (.tmp 6) (.tmp 27) rfl (w.heap.size + 1) (brow (cutF f a b 64)) (by simp [Act.eval, Act.put]) (by simp [Act.eval, Act.put]) 37 Z64 H2.out (by rw [HSZ.out, brow_size]) (by rw [brow_size]; rfl) (brow_one _) ?_))
      exact bodyPost_ret (v := .agg (brow (cutF f a b 64))) (results_cell_row rfl _ _ (w.heap.size + 1) 37 (brow (cutF f a b 64)) (0, 0) _ (by simp [Act.put]) (heap_setRow_same _ _ _ _ _ _ H2.out) Try.underlying37 rfl (by rw [HSZ.out, brow_size])) rfl
        ⟨by rw [cutF_all], Go.Proofs.Ythllplocbciepaa.Below.setRow hB (by omega) _⟩

set_option maxRecDepth 100000 in
set_option maxHeartbeats 2000000 in
theorem Next_c (f : Nat → Bool) (a : Int) (r : Int) (hr : (r = -1 ∧ ∀ i : Nat, i < 64 → a ≤ (i : Int) → f i = false) ∨ ∃ n : Nat, n < 64 ∧ r = (n : Int) ∧ f n = true ∧ a ≤ (n : Int) ∧ ∀ i : Nat, i < n → a ≤ (i : Int) → f i = false) (w : World) :
    Calls Try.prog 31 #[.agg (brow f), .int .i64 a] w fun e w' => e = .returned (.int .i64 r) ∧ Made w w' := by
  obtain ⟨R, hR⟩ : ∃ R, R = brow f := ⟨_, rfl⟩
  have HR := Lib.hid hR
  rw [← hR]
  clear hR
  have HRR := Lib.hid hr
  clear hr
  go_enter Try.func31, Try.ntmps31
  go_wp2_with fail
  have hcell : Hid (∀ k, k < 64 → (w.alloc (.cells R 37)).cell? ⟨w.heap.size, k, none⟩ = some (.bool (f k))) := fun k hk => by
    rw [cell_of_row _ _ _ _ _ _ (Go.heap_alloc_new w _), HR.out, brow_get _ _ hk]
  go_loop [5] (fun i => ∃ k : Nat, k ≤ 64 ∧ i = .int .i64 k ∧ Hid (∀ j : Nat, j < k → a ≤ (j : Int) → f j = false)) (fun i => (64 - intOf i).toNat)
  case atStart => exact ⟨0, by omega, rfl, fun j hj => by omega⟩
  case round =>
    obtain ⟨k, hk, rfl, HN⟩ := hrel
    by_cases hlt : k < 64
    · have hc := hcell.out k hlt
      have hk1 : (k : Int) < 64 := by omega
      obtain ⟨fk, hfk⟩ : ∃ b, b = f k := ⟨_, rfl⟩
      rw [← hfk] at hc
      have HFK := Lib.hid hfk
      clear hfk
      cases fk
      · have HN2 : Hid (∀ j : Nat, j < k + 1 → a ≤ (j : Int) → f j = false) := fun j hj h => by
          by_cases e : j = k
          · subst e; exact HFK.out.symm
          · exact HN.out j (by omega) h
        go_wp2_with fail
        go_round
        case rel => exact ⟨k + 1, by omega, by go_num, HN2⟩
        case measure => simp [intOf]; omega
      · by_cases ha : a ≤ (k : Int)
        · obtain rfl : r = (k : Int) := by
            rcases HRR.out with ⟨_, h⟩ | ⟨n, hn, rfl, h1, h2, h3⟩
            · have := h k hlt ha; rw [← HFK.out] at this; cases this
            · rcases Nat.lt_trichotomy n k with hh | hh | hh
              · rw [HN.out n hh h2] at h1; cases h1
              · rw [hh]
              · have := h3 k hh ha; rw [← HFK.out] at this; cases this
          go_wp2_with fail
          go_ret
          exact ⟨rfl, (Made.refl w).alloc (Nat.le_refl _) _⟩
        · have HN2 : Hid (∀ j : Nat, j < k + 1 → a ≤ (j : Int) → f j = false) := fun j hj h => by
            by_cases e : j = k
            · subst e; exact absurd h ha
            · exact HN.out j (by omega) h
          go_wp2_with fail
          go_round
          case rel => exact ⟨k + 1, by omega, by go_num, HN2⟩
          case measure => simp [intOf]; omega
    · obtain rfl : k = 64 := by omega
      obtain rfl : r = -1 := by
        rcases HRR.out with ⟨h, _⟩ | ⟨n, hn, rfl, h1, h2, h3⟩
        · exact h
        · rw [HN.out n hn h2] at h1; cases h1
      go_wp2_with fail
      go_ret
      exact ⟨rfl, (Made.refl w).alloc (Nat.le_refl _) _⟩
end Go.Proofs.Ythllplocbciepaa.Ref6
