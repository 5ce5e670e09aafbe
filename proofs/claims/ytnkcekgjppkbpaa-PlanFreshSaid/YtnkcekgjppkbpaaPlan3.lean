/- Package knellref03, walked: least, most, Check, Right, Slots, Size. -/
import Derived.Test.YtnkcekgjppkbpaaPlan2
namespace Go.Proofs.Ytnkcekgjppkbpaa.Plan
open Go.RowKit Go.Proofs.Ytnkcekgjppkbpaa Go.Proofs.Ytnkcekgjppkbpaa.PlanN
set_option linter.unusedVariables false
set_option linter.unusedSimpArgs false

set_option maxHeartbeats 1000000 in
theorem least_c (k : Nat) (hk : k < 13) (w : World) : Calls Try.prog 61 #[.int .i64 (k : Int)] w fun e w' => e = .returned (.int .i64 (lo k)) ∧ w = w' := by
  rcases below13 hk with rfl | rfl | rfl | rfl | rfl | rfl | rfl | rfl | rfl | rfl | rfl | rfl | rfl <;>
  · go_enter Try.func61, Try.ntmps61
    go_wp2
    go_ret
    exact ⟨rfl, rfl⟩
set_option maxHeartbeats 1000000 in
theorem most_c (k : Nat) (hk : k < 13) (w : World) : Calls Try.prog 62 #[.int .i64 (k : Int)] w fun e w' => e = .returned (.int .i64 (hi k)) ∧ w = w' := by
  rcases below13 hk with rfl | rfl | rfl | rfl | rfl | rfl | rfl | rfl | rfl | rfl | rfl | rfl | rfl <;>
  · go_enter Try.func62, Try.ntmps62
    go_wp2
    go_ret
    exact ⟨rfl, rfl⟩

set_option maxRecDepth 100000 in
set_option maxHeartbeats 1000000 in
theorem RCheck_c (xs : List Int) (h : xs.length = 13) (w : World) : Calls Try.prog 19 #[nums xs] w fun e w' => e = .returned (.tuple #[.int .i64 (chk xs).1, .int .i64 (chk xs).2]) ∧ Made w w' := by
  have HA := Lib.hid (nums_at xs h)
  unfold nums
  generalize (xs.map (Value.int .i64)).toArray = R at HA ⊢
  go_enter Try.func19, Try.ntmps19
  go_wp2_with fail
  go_loopw [4] (fun i wr => ∃ k : Nat, k ≤ 13 ∧ i = .int .i64 k ∧ Hid (chkFrom xs k (13 - k) = chk xs) ∧ Hid (wr.heap[w.heap.size]? = some (.cells R 23 (0, 0))) ∧ Made w wr) (fun i _ => 13 - (intOf i).toNat)
  case atStart => exact ⟨0, by omega, rfl, rfl, Array.getElem?_push_size, (Made.refl w).alloc (Nat.le_refl _) _⟩
  case round =>
    obtain ⟨k, hk, rfl, HK, H0, hB⟩ := hrel
    by_cases hlt : k < 13
    · have hv := HA.out k hlt
      have i1 : (k : Int) < 13 := by omega
      have i0 : 0 ≤ (k : Int) := by omega
      have HB : Hid (bad xs k = (decide (xs.getD k 0 < lo k) || decide (hi k < xs.getD k 0))) := rfl
      generalize xs.getD k 0 = v at hv HB
      have c0 : wr.cell? ⟨w.heap.size, k, none⟩ = some (.int .i64 v) := by rw [cell_of_row _ _ _ _ _ _ H0.out]; exact hv
      clear hv
      have HL := Lib.hid (least_c k hlt)
      have HM := Lib.hid (most_c k hlt)
      generalize hi k = b at HM HB
      generalize lo k = a at HL HB
      by_cases h1 : v < a
      · have hb : Hid (chk xs = ((k : Int), 7)) := chk_stop hlt (by rw [HB.out]; simp [h1]) HK.out
        have hd : decide (v < a) = true := by simpa using h1
        clear HB HK
        go_wp2_with fail
        go_quiet ((go_at_call 61; exact Calls.quiet_of_same ((HL.out _).mono fun e w' h => ⟨h.1, h.2.symm⟩)))
        go_wp2_with fail
        go_ret2
        exact ⟨by rw [hb.out]; rfl, below_drewN hB _⟩
      · have hd : decide (v < a) = false := by simpa using h1
        by_cases h2 : b < v
        · have hb : Hid (chk xs = ((k : Int), 7)) := chk_stop hlt (by rw [HB.out]; simp [h2]) HK.out
          clear HB HK
          go_wp2_with fail
          go_quiet (first | (go_at_call 61; exact Calls.quiet_of_same ((HL.out _).mono fun e w' h => ⟨h.1, h.2.symm⟩)) | (go_at_call 62; exact Calls.quiet_of_same ((HM.out _).mono fun e w' h => ⟨h.1, h.2.symm⟩)))
          go_wp2_with fail
          go_ret2
          exact ⟨by rw [hb.out]; rfl, below_drewN hB _⟩
        · have hb := Lib.hid (chk_on hlt (by rw [HB.out]; simp [h2, h1]) HK.out)
          clear HB HK
          have h2' : v ≤ b := by omega
          have h1' : a ≤ v := by omega
          go_wp2_with fail
          go_quiet (first | (go_at_call 61; exact Calls.quiet_of_same ((HL.out _).mono fun e w' h => ⟨h.1, h.2.symm⟩)) | (go_at_call 62; exact Calls.quiet_of_same ((HM.out _).mono fun e w' h => ⟨h.1, h.2.symm⟩)))
          go_wp2_with fail
          go_roundw
          case rel => exact ⟨k + 1, by omega, by go_num, hb, H0, below_drewN hB _⟩
          case measure => simp [intOf]; omega
    · obtain rfl : k = 13 := by omega
      have hb := Lib.hid (chk_end HK.out)
      clear HK
      go_wp2_with fail
      go_ret2
      exact ⟨by rw [hb.out]; rfl, hB⟩
end Go.Proofs.Ytnkcekgjppkbpaa.Plan
