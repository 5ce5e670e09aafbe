/- Package knellref07, walked: Run. -/
import Derived.Test.YthllplocbciepaaRun7a
import Derived.Test.YthllplocbciepaaCod5
namespace Go.Proofs.Ythllplocbciepaa.Cod.Seven
open Go.RowKit Go.Proofs.Ythllplocbciepaa Go.Proofs.Ythllplocbciepaa.Cell Go.Proofs.Ythllplocbciepaa.Ref7
set_option linter.unusedVariables false
set_option linter.unusedSimpArgs false
variable {a b sb ns : Nat}

theorem RdA.more {w : World} {B B' : Nat} {A : Option Addr} {l : List Acc} (h : RdA w B A l) (hB : B ≤ B') : RdA w B' A l := fun i hi => by
  obtain ⟨a, h1, h2, h3⟩ := h i hi
  exact ⟨a, h1, Nat.lt_of_lt_of_le h2 hB, h3⟩
theorem elem_task : ElemZ Try.prog 71 73 (.agg #[.slice none 0 0, .int .i64 0, .int .u64 0]) 3 40 := ⟨Try.underlying71, by kernel_rfl, rfl, by decide⟩
/-- The cells of the model's tasks, the first k. -/
def mlist (AF : Nat → Option Addr) (CF : Nat → Nat) (ls : List (List Acc)) (steps : List Nat) (sums : List Int) : Nat → List Value
  | 0 => []
  | k + 1 => mlist AF CF ls steps sums k ++ mcell AF CF ls k (steps.getD k 0) (sums.getD k 0)
variable {AF : Nat → Option Addr} {CF : Nat → Nat} {ls : List (List Acc)} {steps : List Nat} {sums : List Int}
theorem mlist_len : ∀ k, (mlist AF CF ls steps sums k).length = k * 3
  | 0 => rfl
  | k + 1 => by simp [mlist, mlist_len k, mcell]; omega
theorem mlist_at {i j : Nat} (hj : j < 3) : ∀ {k : Nat}, i < k → (mlist AF CF ls steps sums k)[i * 3 + j]? = (mcell AF CF ls i (steps.getD i 0) (sums.getD i 0))[j]?
  | 0, h => by omega
  | k + 1, h => by
    unfold mlist
    by_cases e : i = k
    · subst e
      rw [List.getElem?_append_right (by rw [mlist_len]; omega), mlist_len]
      congr 1
      omega
    · rw [List.getElem?_append_left (by rw [mlist_len]; omega)]
      exact mlist_at hj (by omega)
theorem mlist_one {k : Nat} : ∀ u ∈ mlist AF CF ls steps sums k, u.oneCell' = true := by
  induction k with
  | zero => intro u hu; simp [mlist] at hu
  | succ k ih =>
    intro u hu
    rcases List.mem_append.1 hu with h | h
    · exact ih u h
    · simp [mcell] at h
      rcases h with rfl | rfl | rfl <;> rfl
/-- An own row of the model's tasks. -/
theorem rows_of_own {M : Mach (S7 a b sb ns)} {w : World} {B n c : Nat} {G : Option Addr} (hn : n = ls.length) (h : w.ownsRow B 73 3 (.slice G n c) n (mlist AF CF ls M.σ.steps M.σ.r.sums n)) (h0 : 0 < n) : ∃ g, G = some ⟨g, 0, none⟩ ∧ B ≤ g ∧ Rows AF CF ls M g w := by
  obtain ⟨hl, ⟨h1, h2⟩ | ⟨g, cap, cur, hv, hb, hc, hnc, hm, hs, ht⟩⟩ := h
  · omega
  · simp only [Value.slice.injEq] at hv
    obtain ⟨rfl, _, rfl⟩ := hv
    refine ⟨g, rfl, hb, ⟨cur, hc, fun i hi j hj => ?_⟩⟩
    rw [← hn] at hi
    rw [← mlist_at (k := n) hj hi, ← ht, List.getElem?_take_of_lt (by omega)]
    simp
end Go.Proofs.Ythllplocbciepaa.Cod.Seven
