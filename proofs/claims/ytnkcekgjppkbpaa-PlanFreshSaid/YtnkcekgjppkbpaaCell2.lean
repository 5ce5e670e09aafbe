/- Package cell, walked: Add, Count, Len. -/
import Derived.Test.YtnkcekgjppkbpaaCell
namespace Go.Proofs.Ytnkcekgjppkbpaa.Cell
open Go.RowKit Go.Proofs.Ytnkcekgjppkbpaa
set_option linter.unusedVariables false
set_option linter.unusedSimpArgs false

theorem back_int (x v : Int) (h0 : 0 ≤ x) (h1 : x < 18446744073709551616) : IntKind.u64.wrap (IntKind.u64.wrap (x + v) - v) = x := by
  simp only [IntKind.wrap_u64]; omega

set_option maxRecDepth 100000 in
set_option maxHeartbeats 400000 in
theorem Add_yes {w : World} {a b : Nat} {c : Int} {xs : List Int} (h : Arena w a b c xs) (h1 : c + 1 < 4611686018427387904) (i : Nat) (v : Int) (hi : i < xs.length) (hx0 : 0 ≤ xs[i]) (hx1 : xs[i] < 18446744073709551616) :
    Calls Try.prog 30 #[.pointer (some ⟨a, 0, none⟩), .int .i64 (i : Int), .int .u64 v] w fun e w' => e = .returned (.int .u64 xs[i]) ∧ Arena w' a b (c + 1) (xs.set i (IntKind.u64.wrap (xs[i] + v))) ∧ Turned a b w w' := by
  have h2 := h.seen h1
  have hc := h2.cell hi
  have hz := h2.open_at i
  have hat := at_yes h i hi
  have ht := Turned.setA a b 1 w (.int .i64 (c + 1))
  generalize w.setCell ⟨a, 1, none⟩ (.int .i64 (c + 1)) = w1 at h2 hc hz hat ht
  obtain ⟨x, hx⟩ : ∃ x, x = xs[i] := ⟨_, rfl⟩
  rw [← hx] at hc hx0 hx1 ⊢
  clear hx
  have hbk := Lib.hid (back_int x v hx0 hx1)
  clear hx0 hx1
  have hadd := Lib.hid (Atom.add _ x v _ hc hz)
  have hp := Lib.hid (h2.put i (IntKind.u64.wrap (x + v)))
  have htb := Lib.hid (ht.trans (Turned.setB a b i w1 (.int .u64 (IntKind.u64.wrap (x + v)))))
  generalize IntKind.u64.wrap (x + v) = y at hadd hp htb hbk ⊢
  go_enter Try.func30, Try.ntmps30
  go_wp2_with fail
  refine hat.mono ?_
  rintro e w' ⟨rfl, rfl⟩
  go_wp2_with fail
  refine hadd.out.mono ?_
  rintro e w' ⟨rfl, rfl⟩
  go_wp2_with fail
  go_ret
  exact ⟨ret_of hbk.out, hp.out, htb.out⟩

set_option maxRecDepth 100000 in
set_option maxHeartbeats 400000 in
theorem Count_c {w : World} {a b : Nat} {c : Int} {xs : List Int} (h : Arena w a b c xs) :
    Calls Try.prog 31 #[.pointer (some ⟨a, 0, none⟩)] w fun e w' => e = .returned (.int .i64 c) ∧ w = w' := by
  have k1 : w.cell? ⟨a, 1, none⟩ = some (.int .i64 c) := cell_of_row _ _ _ _ _ _ h.ha
  have c0 := h.c0
  have c1 := h.c1
  clear h
  go_enter Try.func31, Try.ntmps31
  go_wp2_with fail
  refine (Atom.loadI _ _ _ k1).mono ?_
  rintro e w' ⟨rfl, rfl⟩
  go_wp2_with fail
  go_ret
  exact ⟨rfl, rfl⟩
set_option maxRecDepth 100000 in
set_option maxHeartbeats 400000 in
theorem Len_c {w : World} {a b : Nat} {c : Int} {xs : List Int} (h : Arena w a b c xs) (hn : xs.length ≤ 1048576) :
    Calls Try.prog 35 #[.pointer (some ⟨a, 0, none⟩)] w fun e w' => e = .returned (.int .i64 (xs.length : Int)) ∧ w = w' := by
  have k0 : w.cell? ⟨a, 0, none⟩ = some (.slice (some ⟨b, 0, none⟩) xs.length xs.length) := cell_of_row _ _ _ _ _ _ h.ha
  clear h
  generalize xs.length = n at hn k0 ⊢
  go_enter Try.func35, Try.ntmps35
  go_wp2_with fail
  go_ret
  exact ⟨rfl, rfl⟩
end Go.Proofs.Ytnkcekgjppkbpaa.Cell
