/- Package plan, walked: the heads' places; a state's word. -/
import Derived.Test.YtnkcekgjppkbpaaFresh
namespace Go.Proofs.Ytnkcekgjppkbpaa.Fresh
open Go.RowKit Go.Proofs.Ytnkcekgjppkbpaa Go.Proofs.Ytnkcekgjppkbpaa.Cell Go.Proofs.Ytnkcekgjppkbpaa.Wd
set_option linter.unusedVariables false
set_option linter.unusedSimpArgs false

theorem Nodes_c (v : Value) (w : World) : Calls Try.prog 58 #[v] w fun e w' => e = .returned (.int .i64 1) ∧ w = w' := by
  go_enter Try.func58, Try.ntmps58
  go_wp2
  go_ret
  exact ⟨rfl, rfl⟩
theorem Tickets_c (v : Value) (w : World) : Calls Try.prog 59 #[v] w fun e w' => e = .returned (.int .i64 2) ∧ w = w' := by
  go_enter Try.func59, Try.ntmps59
  go_wp2
  go_ret
  exact ⟨rfl, rfl⟩
theorem Clock_c (v : Value) (w : World) : Calls Try.prog 60 #[v] w fun e w' => e = .returned (.int .i64 0) ∧ w = w' := by
  go_enter Try.func60, Try.ntmps60
  go_wp2
  go_ret
  exact ⟨rfl, rfl⟩
end Go.Proofs.Ytnkcekgjppkbpaa.Fresh
