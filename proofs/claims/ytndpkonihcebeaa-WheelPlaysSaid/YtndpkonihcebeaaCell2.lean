/- Package cell, walked: Add, Count, Len. -/
import Derived.Test.YtndpkonihcebeaaCell
namespace Go.Proofs.Ytndpkonihcebeaa.Cell
open Go.RowKit Go.Proofs.Ytndpkonihcebeaa
set_option linter.unusedVariables false
set_option linter.unusedSimpArgs false

theorem back_int (x v : Int) (h0 : 0 ≤ x) (h1 : x < 18446744073709551616) : IntKind.u64.wrap (IntKind.u64.wrap (x + v) - v) = x := by
  simp only [IntKind.wrap_u64]; omega


set_option maxRecDepth 100000 in
set_option maxHeartbeats 400000 in
theorem Count_c {w : World} {a b : Nat} {c : Int} {xs : List Int} (h : Arena w a b c xs) :
    Calls Try.prog 26 #[.pointer (some ⟨a, 0, none⟩)] w fun e w' => e = .returned (.int .i64 c) ∧ w = w' := by
  have k1 : w.cell? ⟨a, 1, none⟩ = some (.int .i64 c) := cell_of_row _ _ _ _ _ _ h.ha
  have c0 := h.c0
  have c1 := h.c1
  clear h
  go_enter Try.func26, Try.ntmps26
  go_wp2_with fail
  refine (Atom.loadI _ _ _ k1).mono ?_
  rintro e w' ⟨rfl, rfl⟩
  go_wp2_with fail
  go_ret
  exact ⟨rfl, rfl⟩
end Go.Proofs.Ytndpkonihcebeaa.Cell
