/- Are tasks few, and short? (knelllaw07.few) -/
import Derived.Test.YthllplocbciepaaCod6
import Derived.Test.YthllplocbciepaaOpenAA
namespace Go.Proofs.Ythllplocbciepaa.Cod.Seven
open Go.RowKit Go.Proofs.Ythllplocbciepaa Go.Proofs.Ythllplocbciepaa.Cell
set_option linter.unusedVariables false
set_option linter.unusedSimpArgs false
/-- Are tasks few, and short? -/
def few (ls : List (List Acc)) : Bool := (ls.all fun x => decide (x.length ≤ 30)) && decide (ls.length ≤ 6)
theorem few_iff (ls : List (List Acc)) : few ls = true ↔ (∀ i (h : i < ls.length), ls[i].length ≤ 30) ∧ ls.length ≤ 6 := by
  unfold few
  rw [Bool.and_eq_true, List.all_eq_true, decide_eq_true_iff]
  constructor
  · exact fun ⟨h1, h2⟩ => ⟨fun i h => by simpa using h1 _ (List.getElem_mem h), h2⟩
  · refine fun ⟨h1, h2⟩ => ⟨fun x hx => ?_, h2⟩
    obtain ⟨i, hi, rfl⟩ := List.getElem_of_mem hx
    simpa using h1 i hi
set_option maxRecDepth 100000 in
set_option maxHeartbeats 1000000 in
theorem few_c (A : Option Addr) (n c : Nat) (ls : List (List Acc)) (w : World) (B : Nat) (hn : Hid (n = ls.length)) (hb : (n : Int) ≤ 9223372036854775807) (hl : Hid (RdAA w B A ls)) :
    Calls Try.prog 35 #[.slice A n c] w fun e w' => e = .returned (.bool (few ls)) ∧ w = w' := by
  go_enter Try.func35, Try.ntmps35
  go_wp2_with fail
  go_loop [7] (fun iv => ∃ k : Nat, k ≤ n ∧ iv = .int .i64 k ∧ Hid (∀ i (h : i < ls.length), i < k → ls[i].length ≤ 30)) (fun iv => (n - intOf iv).toNat)
  case atStart => exact ⟨0, by omega, rfl, fun i _ h => by omega⟩
  case round =>
    obtain ⟨k, hk, rfl, HA⟩ := hrel
    by_cases hlt : k < n
    · have hkl : k < ls.length := by have := hn.out; omega
      obtain ⟨a, A', m, c', rfl, -, hc, hm, -, -, -, -⟩ := hl.out k hkl
      have i0 : (0 : Int) ≤ (k : Int) := by omega
      have i1 : (k : Int) < (n : Int) := by omega
      by_cases h30 : m ≤ 30
      · have HA2 : Hid (∀ i (h : i < ls.length), i < k + 1 → ls[i].length ≤ 30) := fun i h hi => by
          by_cases e : i = k
          · subst e; omega
          · exact HA.out i h (by omega)
        have h30' : ¬ 30 < (m : Int) := by omega
        clear hm hkl HA
        go_wp2_with fail
        go_round
        case rel => exact ⟨k + 1, by omega, by go_num, HA2⟩
        case measure => simp [intOf]; omega
      · have HF : Hid (few ls = false) := by
          show _ = _
          rw [Bool.eq_false_iff]
          intro h
          have := ((few_iff ls).1 h).1 k hkl
          omega
        have h30' : 30 < (m : Int) := by omega
        clear hm hkl HA
        go_wp2_with fail
        go_ret
        exact ⟨by rw [HF.out]; rfl, rfl⟩
    · have HF : Hid (few ls = decide ((n : Int) ≤ 6)) := by
        show _ = _
        have h1 := hn.out
        rw [Bool.eq_iff_iff, few_iff, decide_eq_true_iff]
        constructor
        · exact fun h => by omega
        · exact fun h => ⟨fun i hi => HA.out i hi (by omega), by omega⟩
      go_wp2_with fail
      go_ret
      exact ⟨by rw [HF.out]; rfl, rfl⟩
end Go.Proofs.Ythllplocbciepaa.Cod.Seven
