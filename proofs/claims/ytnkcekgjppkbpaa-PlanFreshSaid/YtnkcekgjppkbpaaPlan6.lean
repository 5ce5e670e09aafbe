/- Package knelllaw03, walked: speaks; two equal configurations compared. -/
import Derived.Test.YtnkcekgjppkbpaaPlan5
import Derived.Laws.StructEq
namespace Go.Proofs.Ytnkcekgjppkbpaa.Plan
open Go.RowKit Go.Proofs.Ytnkcekgjppkbpaa Go.Proofs.Ytnkcekgjppkbpaa.PlanN
set_option linter.unusedVariables false
set_option linter.unusedSimpArgs false

theorem ex_right : Rgt [1, 1, 1, 1, 1, 0, 0, 0, 1, 1, 1, 0, 0] := by
  intro i hi
  rcases below13 hi with rfl | rfl | rfl | rfl | rfl | rfl | rfl | rfl | rfl | rfl | rfl | rfl | rfl <;> decide

set_option maxRecDepth 100000 in
set_option maxHeartbeats 400000 in
theorem speaks_c (w : World) : Calls Try.prog 13 #[] w fun e w' => e = .returned (.bool true) ∧ Made w w' := by
  have HN := Lib.hid (New_yes _ rfl ex_right)
  have HZ := Lib.hid (fun (p : Nat) (w : World) (hp : IsPlan w p _) => Size_c hp rfl ex_right)
  have h16 : size [1, 1, 1, 1, 1, 0, 0, 0, 1, 1, 1, 0, 0] = 16 := by decide
  rw [h16] at HZ
  clear h16
  go_enter Try.func13, Try.ntmps13
  go_wp2_with fail
  refine (HN.out _).mono ?_
  rintro e w1 ⟨p, rfl, hp, hlt, hM⟩
  go_wp2_with fail
  refine (HZ.out p _ hp).mono ?_
  rintro e w2 ⟨rfl, n, rfl⟩
  go_wp2_with fail
  go_ret
  exact ⟨rfl, below_drewN hM n⟩

set_option maxRecDepth 100000 in
set_option maxHeartbeats 1000000 in
theorem eq_cfg (xs : List Int) (h : xs.length = 13) (w : World) : (Op.equalIn 10000 28 (nums xs) (nums xs)).run Try.prog w = .ok true w := by
  obtain ⟨a0, a1, a2, a3, a4, a5, a6, a7, a8, a9, a10, a11, a12, rfl⟩ := thirteen xs h
  unfold nums
  simp only [List.map_cons, List.map_nil]
  rw [show (10000 : Nat) = 9999 + 1 from rfl]
  go_simp
  trace_state
end Go.Proofs.Ytnkcekgjppkbpaa.Plan
