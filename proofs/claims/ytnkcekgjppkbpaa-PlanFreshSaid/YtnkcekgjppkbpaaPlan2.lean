/- Package plan, walked: Check. -/
import Derived.Test.YtnkcekgjppkbpaaPlan
import Derived.Test.YtnkcekgjppkbpaaPlanN
namespace Go.Proofs.Ytnkcekgjppkbpaa.Plan
open Go.RowKit Go.Proofs.Ytnkcekgjppkbpaa Go.Proofs.Ytnkcekgjppkbpaa.PlanN
set_option linter.unusedVariables false
set_option linter.unusedSimpArgs false

def SP : Array Value := #[.int .i64 1, .int .i64 64, .int .i64 1, .int .i64 8, .int .i64 1, .int .i64 6, .int .i64 1, .int .i64 4096, .int .i64 1, .int .i64 8192, .int .i64 0, .int .i64 1073741823, .int .i64 0, .int .i64 4294967295, .int .i64 0, .int .i64 256,
  .int .i64 1, .int .i64 1073741823, .int .i64 1, .int .i64 1073741823, .int .i64 1, .int .i64 1073741823, .int .i64 0, .int .i64 1073741823, .int .i64 0, .int .i64 31]
def ZSP : Array Value := #[.int .i64 0, .int .i64 0, .int .i64 0, .int .i64 0, .int .i64 0, .int .i64 0, .int .i64 0, .int .i64 0, .int .i64 0, .int .i64 0, .int .i64 0, .int .i64 0, .int .i64 0, .int .i64 0, .int .i64 0, .int .i64 0,
  .int .i64 0, .int .i64 0, .int .i64 0, .int .i64 0, .int .i64 0, .int .i64 0, .int .i64 0, .int .i64 0, .int .i64 0, .int .i64 0]
theorem al_sp (w : World) : (Instr.alloc 89 true (.tuple #[])).run Try.prog w = .ok (.pointer (some ⟨w.heap.size, 0, none⟩)) (w.alloc (.cells ZSP 89)) := by kernel_rfl
theorem sp_one : SP.all (·.oneCell') = true := by decide +kernel
theorem nums_at (xs : List Int) (h : xs.length = 13) (k : Nat) (hk : k < 13) : (xs.map (Value.int .i64)).toArray[k]? = some (.int .i64 (xs.getD k 0)) := by
  simp [List.getElem?_eq_getElem (show k < xs.length by omega)]
theorem below13 {k : Nat} (h : k < 13) : k = 0 ∨ k = 1 ∨ k = 2 ∨ k = 3 ∨ k = 4 ∨ k = 5 ∨ k = 6 ∨ k = 7 ∨ k = 8 ∨ k = 9 ∨ k = 10 ∨ k = 11 ∨ k = 12 := by omega
theorem sp_lo {k : Nat} (h : k < 13) : SP[k * 2]? = some (.int .i64 (lo k)) := by
  rcases below13 h with rfl | rfl | rfl | rfl | rfl | rfl | rfl | rfl | rfl | rfl | rfl | rfl | rfl <;> rfl
theorem sp_hi {k : Nat} (h : k < 13) : SP[k * 2 + 1]? = some (.int .i64 (hi k)) := by
  rcases below13 h with rfl | rfl | rfl | rfl | rfl | rfl | rfl | rfl | rfl | rfl | rfl | rfl | rfl <;> rfl
theorem ret2_of {k k' : IntKind} {a b c d : Int} (h : a = c) (h' : b = d) : Ending.returned (.tuple #[.int k a, .int k' b]) = .returned (.tuple #[.int k c, .int k' d]) := by rw [h, h']

theorem sp_world (w : World) (R : Array Value) : ∃ w0, ((w.alloc (.cells R 28)).alloc (.cells ZSP 89)).setRow (w.heap.size + 1) SP = w0 ∧ Hid (w0.heap[w.heap.size]? = some (.cells R 28 (0, 0))) ∧ Hid (w0.heap[w.heap.size + 1]? = some (.cells SP 89 (0, 0))) ∧ Made w w0 :=
  ⟨_, rfl, (heap_setRow_other _ _ _ _ (by omega)).trans (heap_alloc2_old _ _ _), heap_setRow_same _ _ _ _ _ _ (heap_alloc2_new _ _ _), Below.setRow (((Made.refl w).alloc (Nat.le_refl _) _).alloc (by simp) _) (by omega) _⟩
set_option maxRecDepth 100000 in
set_option maxHeartbeats 1000000 in
theorem Check_c (xs : List Int) (h : xs.length = 13) (w : World) : Calls Try.prog 17 #[nums xs] w fun e w' => e = .returned (.tuple #[.int .i64 (chk xs).1, .int .i64 (chk xs).2]) ∧ Made w w' := by
  have HL := Lib.hid (List_c xs h)
  have HA := Lib.hid (nums_at xs h)
  have HR : Hid ((xs.map (Value.int .i64)).toArray.size = 13) := by show _ = _; simp [h]
  unfold nums at HL ⊢
  generalize (xs.map (Value.int .i64)).toArray = R at HL HA HR ⊢
  have HZ := Lib.hid (show (Try.prog.info? 89).map (·.size) = some 26 by kernel_rfl)
  have HC := Lib.hid (show (Try.prog.info? 28).map (·.size) = some 13 by kernel_rfl)
  go_enter Try.func17, Try.ntmps17
  go_wp2_with (first | (refine wpList_alloc_zero rfl 89 rfl ZSP al_sp ?_) | (refine wpList_store_row rfl 89 (.tmp 4) (.tmp 20) rfl (w.heap.size + 1) SP (by simp [Act.eval, Act.put]) (by simp [Act.eval, Act.put, SP]) 89 ZSP (heap_alloc2_new _ _ _) HZ.out rfl sp_one ?_; obtain ⟨w0, hw0, H0, H1, hB0⟩ := sp_world w R; rw [hw0]; clear hw0) | (refine wpList_load_row rfl 28 (.tmp 1) rfl w.heap.size (by simp [Act.eval, Act.put]) 28 R (0, 0) _ H0.out Try.underlying28 rfl (by rw [HR.out]; exact HC.out) ?_))
  refine (HL.out _).mono ?_
  rintro e w1 ⟨rfl, hM⟩
  have hB : Made w w1 := Made.trans hB0 hM
  have H2 : Hid (w1.heap[w.heap.size + 1]? = some (.cells SP 89 (0, 0))) := (hM.block _ (Array.getElem?_eq_some_iff.1 H1.out).1).trans H1.out
  clear hM HL H1 H0 hB0
  go_wp2_with fail
  go_loop [23] (fun i => ∃ k : Nat, k ≤ 13 ∧ i = .int .i64 k ∧ Hid (chkFrom xs k (13 - k) = chk xs)) (fun i => 13 - (intOf i).toNat)
  case atStart => exact ⟨0, by omega, rfl, rfl⟩
  case round =>
    obtain ⟨k, hk, rfl, HK⟩ := hrel
    by_cases hlt : k < 13
    · have hv := HA.out k hlt
      have c0 : w1.cell? ⟨w.heap.size + 1, k * 2, none⟩ = some (.int .i64 (lo k)) := by rw [cell_of_row _ _ _ _ _ _ H2.out]; exact sp_lo hlt
      have c1 : w1.cell? ⟨w.heap.size + 1, k * 2 + 1, none⟩ = some (.int .i64 (hi k)) := by rw [cell_of_row _ _ _ _ _ _ H2.out]; exact sp_hi hlt
      have HB : Hid (bad xs k = (decide (xs.getD k 0 < lo k) || decide (hi k < xs.getD k 0))) := rfl
      generalize xs.getD k 0 = v at hv HB
      have hidx : ∀ w : World, (Instr.index 22 (.agg R) (.int .i64 (k : Int))).run Try.prog w = .ok (.int .i64 v) w := fun w => run_index_agg (n := 13) (e := 3) Try.underlying22 Try.underlying3 rfl (by kernel_rfl) R .i64 k _ (by omega) (by omega) (by simpa using hv) w
      have i1 : (k : Int) < 13 := by omega
      clear hv
      generalize hi k = b at c1 HB
      generalize lo k = a at c0 HB
      by_cases h1 : v < a
      · have hb : Hid (chk xs = ((k : Int), 7)) := chk_stop hlt (by rw [HB.out]; simp [h1]) HK.out
        clear HB HK
        go_wp2_with fail
        go_ret2
        exact ⟨by rw [hb.out]; rfl, hB⟩
      · by_cases h2 : b < v
        · have hb : Hid (chk xs = ((k : Int), 7)) := chk_stop hlt (by rw [HB.out]; simp [h2]) HK.out
          clear HB HK
          go_wp2_with fail
          go_ret2
          exact ⟨by rw [hb.out]; rfl, hB⟩
        · have hb := Lib.hid (chk_on hlt (by rw [HB.out]; simp [h2, h1]) HK.out)
          clear HB HK
          have h2' : v ≤ b := by omega
          have h1' : a ≤ v := by omega
          go_wp2_with fail
          go_round
          case rel => exact ⟨k + 1, by omega, by go_num, hb⟩
          case measure => simp [intOf]; omega
    · obtain rfl : k = 13 := by omega
      have hb := Lib.hid (chk_end HK.out)
      clear HK
      go_wp2_with fail
      go_ret2
      exact ⟨by rw [hb.out]; rfl, hB⟩
end Go.Proofs.Ytnkcekgjppkbpaa.Plan
