/- Layer 8, StackBack: what holds at the third loop's head. -/
import Derived.Test.YthllplocbciepaaBackL
namespace Go.Proofs.Ythllplocbciepaa.Kod.Eight
open Go.RowKit Go.Proofs.Ythllplocbciepaa Go.Proofs.Ythllplocbciepaa.Cell Go.Proofs.Ythllplocbciepaa.Wd
set_option linter.unusedVariables false
set_option linter.unusedSimpArgs false
variable {a b : Nat} {gb : Nat → Nat}

/-- The numbers below one, plain. -/
def nums (k : Nat) : List Int := (List.range k).map fun (i : Nat) => (i : Int)
theorem nums_len (k : Nat) : (nums k).length = k := by simp [nums]
theorem nums_upto (k : Nat) : (nums k).map (Value.int .i64) = upto k := by simp [nums, upto]
theorem nums_rng {k : Nat} {i : Int} (h : i ∈ nums k) : 0 ≤ i ∧ i < k := by
  simp only [nums, List.mem_map, List.mem_range] at h
  obtain ⟨j, hj, rfl⟩ := h
  omega
theorem nums_once (k : Nat) : (nums k).Nodup := by
  unfold nums List.Nodup
  rw [List.pairwise_map]
  have h : List.Pairwise (fun a b => a ≠ b) (List.range k) := List.nodup_range
  exact h.imp fun h1 h2 => h1 (by omega)
/-- The worker at the beginning. -/
def xb (k : Nat) : W8 := ⟨nums k, none, false, true, false⟩
theorem fitb {k n : Nat} (hk : k < 30) : Fit (List.replicate (1 + k) 0) [] (xb k) n := by
  refine ⟨Stk.empty (by omega), by simpa [xb] using nums_once k, fun i hi => ?_, by simp [xb, nums_len]; omega, fun g hg => by simp [xb] at hg⟩
  have := nums_rng hi
  simp
  omega
theorem back_inv {N k s u : Nat} {w W wr : World} {pv tv hv : Value} {xs : List Int} (hk : k < 30) (hA : Arena w a b 0 xs) (hw : ∀ x ∈ xs, 0 ≤ x ∧ x < 18446744073709551616) (hl : xs.length ≤ 1048576) (hN : N < 4611686018427387904) (hm : Made w W) (h : L2 w.heap.size W wr k s u pv tv hv) :
    Inv (S8 a b gb) N ⟨0, xs, [], [xb k]⟩ [] ⟨[], fun q => q = w.heap.size + 1 ∨ hv.ownBlock = some q, fun _ => False, [w.heap.size + 1]⟩ wr := by
  have la := lt_of_at hA.ha
  have lb := lt_of_at hA.hb
  have hsz := h.sz
  have hmm : Made w wr := Below.trans hm (Below.mono h.bel (by omega))
  refine begin_got (hv := hv) (sv := .slice none 0 0) (hA.later hmm) hw hl hN (fun q hq => ?_) ⟨Or.inl rfl, ?_, ?_, fun q hq => Or.inr hq, fun i hi => ?_, fun g hg => by simp [xb] at hg⟩ (fun q _ e => by simp [Value.ownBlock] at e) (fun _ => rfl)
  · rcases hq with rfl | hq
    · exact ⟨by omega, by omega, by omega⟩
    · obtain ⟨h1, cur, h2⟩ := rowb_block h.hr hq
      have := lt_of_at h2
      exact ⟨by omega, by omega, this⟩
  · rw [h.wk]
    rfl
  · have e : (xb k).hands = nums k := rfl
    rw [e, nums_len, nums_upto]
    exact row_mono h.hr (Nat.zero_le _)
  · have := nums_rng hi
    omega
end Go.Proofs.Ythllplocbciepaa.Kod.Eight
