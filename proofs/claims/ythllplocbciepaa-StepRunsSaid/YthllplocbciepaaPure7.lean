/- What steps of acts come to, in plain words (no program in sight but the system's own words). -/
import Derived.Test.YthllplocbciepaaCode7
namespace Go.Proofs.Ythllplocbciepaa.Cod.Seven
open Go.RowKit Go.Proofs.Ythllplocbciepaa Go.Proofs.Ythllplocbciepaa.Cell
set_option linter.unusedVariables false
set_option linter.unusedSimpArgs false
variable {a b sb ns : Nat}

theorem act_steps (x : Acc) (i : Nat) (σ : St R7) : (act x i σ).steps = σ.steps := by
  unfold act tell St.swp St.cas St.sto St.ld
  repeat' split
  all_goals rfl
theorem act_c (x : Acc) (i : Nat) (σ : St R7) : σ.c ≤ (act x i σ).c ∧ (act x i σ).c ≤ σ.c + 1 := by
  unfold act tell St.swp St.cas St.sto St.ld
  repeat' split
  all_goals first | omega | (simp only; omega)
theorem act_kept (x : Acc) (i : Nat) (σ : St R7) : (act x i σ).r.kept = σ.r.kept := by
  unfold act tell St.swp St.cas St.sto St.ld
  repeat' split
  all_goals rfl
theorem act_len (x : Acc) (i : Nat) (σ : St R7) : (act x i σ).xs.length = σ.xs.length := by
  unfold act tell St.swp St.cas St.sto St.ld
  repeat' split
  all_goals simp
theorem act_sums (x : Acc) (i : Nat) (σ : St R7) : (act x i σ).r.sums.length = σ.r.sums.length := by
  unfold act tell St.swp St.cas St.sto St.ld
  repeat' split
  all_goals simp
/-- A step of a task that has acts left. -/
theorem step_cons {M : Mach (S7 a b sb ns)} {i j : Nat} {x : Acc} {l : List Acc} (h : M.ks[i]? = some (j, x :: l)) :
    M.step i = ⟨M.ks.set i (j, l), act x j { M.σ with steps := M.σ.steps.set i (M.σ.steps.getD i 0 + 1) }⟩ := by
  unfold Mach.step
  rw [h]
  rfl
theorem step_nil {M : Mach (S7 a b sb ns)} {i j : Nat} (h : M.ks[i]? = some (j, [])) : M.step i = M := by
  unfold Mach.step
  rw [h]
  rfl
/-- Steps of one task: what is left of it, and how many it has done. -/
theorem fin_at {M : Mach (S7 a b sb ns)} {i j s : Nat} {l : List Acc} (hk : M.ks[i]? = some (j, l)) (hs : M.σ.steps[i]? = some s) : ∀ k, (M.fin i k).ks[i]? = some (j, l.drop k) ∧ (M.fin i k).σ.steps[i]? = some (s + min k l.length)
  | 0 => ⟨by rw [List.drop_zero]; exact hk, by rw [Nat.zero_min, Nat.add_zero]; exact hs⟩
  | k + 1 => by
    obtain ⟨h1, h2⟩ := fin_at hk hs k
    show ((M.fin i k).step i).ks[i]? = _ ∧ ((M.fin i k).step i).σ.steps[i]? = _
    by_cases hlt : k < l.length
    · have hd : l.drop k = l[k] :: l.drop (k + 1) := List.drop_eq_getElem_cons hlt
      rw [hd] at h1
      rw [step_cons h1]
      have e1 := (List.getElem?_eq_some_iff.1 h1).1
      have e2 := (List.getElem?_eq_some_iff.1 h2).1
      refine ⟨List.getElem?_set_self e1, ?_⟩
      rw [act_steps]
      simp only [List.getD_eq_getElem?_getD, h2, List.getElem?_set_self e2]
      simp
      omega
    · have hd : l.drop k = [] := List.drop_eq_nil_of_le (by omega)
      rw [hd] at h1
      rw [step_nil h1]
      refine ⟨by rw [h1, List.drop_eq_nil_of_le (by omega)], by rw [h2]; congr 1; omega⟩
theorem fin_over {M : Mach (S7 a b sb ns)} {i j s : Nat} {l : List Acc} (hk : M.ks[i]? = some (j, l)) (hs : M.σ.steps[i]? = some s) (k : Nat) : (M.fin i k).over i = decide (l.length ≤ k) := by
  rw [over_at (fin_at hk hs k).1]
  show (l.drop k).isEmpty = _
  rw [Bool.eq_iff_iff]
  simp
theorem fin_c (M : Mach (S7 a b sb ns)) (i k : Nat) : (M.fin i k).σ.c ≤ (M.fin i (k + 1)).σ.c ∧ (M.fin i (k + 1)).σ.c ≤ (M.fin i k).σ.c + 1 := by
  show _ ≤ ((M.fin i k).step i).σ.c ∧ ((M.fin i k).step i).σ.c ≤ _
  generalize M.fin i k = M
  unfold Mach.step
  split
  · omega
  · split
    · omega
    · rename_i k' h1 h2
      obtain ⟨j, l⟩ := k'
      cases l with
      | nil => simp [S7] at h2
      | cons x l => exact act_c x j _
end Go.Proofs.Ythllplocbciepaa.Cod.Seven
