/- The atomic cells that package cell uses, walked: Load, Store, Swap, CompareAndSwap, Add of an atomic.Uint64, Load and Add of an atomic.Int64. -/
import Derived.Test.YtndpkonihcebeaaBase
import Derived.Laws.LoneSync
namespace Go.Proofs.Ytndpkonihcebeaa.Atom
open Go.RowKit Go.Proofs.Ytndpkonihcebeaa
set_option linter.unusedVariables false
set_option linter.unusedSimpArgs false

theorem run_call_swap {P : Program} {f : FuncId} {fn : Func} (hf : P.funcs[f]? = some fn) (hname : (fn.name == "runtime.NumGoroutine") = false) (hb : fn.body.isNone = true) (hn : Extern.findNext fn = none) (k : IntKind)
    (he : Extern.find fn = some (Extern.Atomic.swapT (.int k))) {a : Addr} {x y : Int} {w : World} (hc : w.cell? a = some (.int k x)) (hz : w.frozen? a = false) :
    (callFunc f #[.pointer (some a), .int k y]).run P w = .ok (.value (.int k x)) (w.setCell a (.int k y)) := by
  rw [run_callFunc_extern hf hname hb hn he]
  change (Sem.run P (do
    let a' ← asAddr (.pointer (some a))
    let old ← Extern.Atomic.read (.int k) a'
    store a' (.int k y) .atomic
    pure old) w).andThen _ = _
  simp [Extern.Atomic.touchesFrozen, Extern.Atomic.read, asAddr, viewAt, World.shape?_isSome_of_cell? hc, hc, hz, run_store P w a (.int k y) .atomic rfl, Result.andThen]

set_option maxHeartbeats 400000 in
theorem load (a : Addr) (x : Int) (w : World) (h : w.cell? a = some (.int .u64 x)) : Calls Try.prog 58 #[.pointer (some a)] w fun e w' => e = .returned (.int .u64 x) ∧ w = w' := by
  obtain ⟨b, k, s⟩ := a
  have hl := run_call_load (P := Try.prog) Try.func95 (by kernel_rfl) (by kernel_rfl) (by kernel_rfl) .u64 (by kernel_rfl) h
  go_enter Try.func58, Try.ntmps58
  go_wp2
  go_ret
  exact ⟨rfl, rfl⟩
set_option maxHeartbeats 400000 in
theorem store (a : Addr) (x y : Int) (w : World) (h : w.cell? a = some (.int .u64 x)) (hz : w.frozen? a = false) : Calls Try.prog 55 #[.pointer (some a), .int .u64 y] w fun e w' => e = .returned (.tuple #[]) ∧ w.setCell a (.int .u64 y) = w' := by
  obtain ⟨b, k, s⟩ := a
  have hl := run_call_store (P := Try.prog) Try.func92 (by kernel_rfl) (by kernel_rfl) (by kernel_rfl) (by kernel_rfl) (y := y) (k := .u64) h hz
  go_enter Try.func55, Try.ntmps55
  go_wp2
  refine bodyPost_end (results_none rfl _ _ _) rfl ?_
  exact ⟨rfl, rfl⟩
set_option maxHeartbeats 400000 in
theorem swap (a : Addr) (x y : Int) (w : World) (h : w.cell? a = some (.int .u64 x)) (hz : w.frozen? a = false) : Calls Try.prog 157 #[.pointer (some a), .int .u64 y] w fun e w' => e = .returned (.int .u64 x) ∧ w.setCell a (.int .u64 y) = w' := by
  obtain ⟨b, k, s⟩ := a
  have hl := run_call_swap (P := Try.prog) Try.func158 (by kernel_rfl) (by kernel_rfl) (by kernel_rfl) .u64 (by kernel_rfl) (y := y) h hz
  go_enter Try.func157, Try.ntmps157
  go_wp2
  go_ret
  exact ⟨rfl, rfl⟩
set_option maxHeartbeats 400000 in
theorem cas_hit (a : Addr) (x y : Int) (w : World) (h : w.cell? a = some (.int .u64 x)) (hz : w.frozen? a = false) : Calls Try.prog 152 #[.pointer (some a), .int .u64 x, .int .u64 y] w fun e w' => e = .returned (.bool true) ∧ w.setCell a (.int .u64 y) = w' := by
  obtain ⟨b, k, s⟩ := a
  have hl := run_call_cas_hit (P := Try.prog) Try.func156 (by kernel_rfl) (by kernel_rfl) (by kernel_rfl) .u64 (by kernel_rfl) (y := y) h hz
  go_enter Try.func152, Try.ntmps152
  go_wp2
  go_ret
  exact ⟨rfl, rfl⟩
set_option maxHeartbeats 400000 in
theorem cas_miss (a : Addr) (x o y : Int) (w : World) (h : w.cell? a = some (.int .u64 x)) (hz : w.frozen? a = false) (hne : ¬ x = o) : Calls Try.prog 152 #[.pointer (some a), .int .u64 o, .int .u64 y] w fun e w' => e = .returned (.bool false) ∧ w = w' := by
  obtain ⟨b, k, s⟩ := a
  have hl := run_call_cas_miss (P := Try.prog) Try.func156 (by kernel_rfl) (by kernel_rfl) (by kernel_rfl) .u64 (by kernel_rfl) (y := y) h hz hne
  go_enter Try.func152, Try.ntmps152
  go_wp2
  go_ret
  exact ⟨rfl, rfl⟩
set_option maxHeartbeats 400000 in
theorem loadI (a : Addr) (x : Int) (w : World) (h : w.cell? a = some (.int .i64 x)) : Calls Try.prog 57 #[.pointer (some a)] w fun e w' => e = .returned (.int .i64 x) ∧ w = w' := by
  obtain ⟨b, k, s⟩ := a
  have hl := run_call_load (P := Try.prog) Try.func94 (by kernel_rfl) (by kernel_rfl) (by kernel_rfl) .i64 (by kernel_rfl) h
  go_enter Try.func57, Try.ntmps57
  go_wp2
  go_ret
  exact ⟨rfl, rfl⟩
set_option maxHeartbeats 400000 in
theorem addI (a : Addr) (x y : Int) (w : World) (h : w.cell? a = some (.int .i64 x)) (hz : w.frozen? a = false) (hx : -9223372036854775808 ≤ x + y) (hx' : x + y ≤ 9223372036854775807) : Calls Try.prog 91 #[.pointer (some a), .int .i64 y] w fun e w' => e = .returned (.int .i64 (x + y)) ∧ w.setCell a (.int .i64 (x + y)) = w' := by
  obtain ⟨b, k, s⟩ := a
  have hl := run_call_add (P := Try.prog) Try.func118 (by kernel_rfl) (by kernel_rfl) (by kernel_rfl) .i64 (by kernel_rfl) (y := y) (s := x + y) h hz (by simp [go_sem, wrap64, IntKind.wrap_i64]; omega)
  go_enter Try.func91, Try.ntmps91
  go_wp2
  go_ret
  exact ⟨rfl, rfl⟩
end Go.Proofs.Ytndpkonihcebeaa.Atom
