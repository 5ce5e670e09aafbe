/- Machines of two arenas that do alike; what one machine's steps leave of the other's memory. -/
import Derived.Test.YthllplocbciepaaPure7
namespace Go.Proofs.Ythllplocbciepaa.Cod.Seven
open Go.RowKit Go.Proofs.Ythllplocbciepaa Go.Proofs.Ythllplocbciepaa.Cell
set_option linter.unusedVariables false
set_option linter.unusedSimpArgs false
variable {a b sb ns a' b' sb' : Nat}

/-- Two that are alike. -/
structure Like (σ τ : St R7) : Prop where
  c : σ.c = τ.c
  xs : σ.xs = τ.xs
  sums : σ.r.sums = τ.r.sums
theorem act_like {σ τ : St R7} (h : Like σ τ) (x : Acc) (i : Nat) : Like (act x i σ) (act x i τ) := by
  obtain ⟨c1, x1, s1, ⟨m1, k1⟩⟩ := σ
  obtain ⟨c2, x2, s2, ⟨m2, k2⟩⟩ := τ
  obtain ⟨h1, h2, h3⟩ := h
  simp only at h1 h2 h3
  subst h1 h2 h3
  unfold act tell St.swp St.cas St.sto St.ld
  refine ⟨?_, ?_, ?_⟩
  all_goals
    simp only
    repeat' split
    all_goals first | rfl | simp_all
/-- Two machines that are alike. -/
structure LikeM (M : Mach (S7 a b sb ns)) (M' : Mach (S7 a' b' sb' ns)) : Prop where
  ks : (show List K7 from M.ks) = (show List K7 from M'.ks)
  steps : M.σ.steps = M'.σ.steps
  like : Like M.σ M'.σ
theorem step_like {M : Mach (S7 a b sb ns)} {M' : Mach (S7 a' b' sb' ns)} (h : LikeM M M') (i : Nat) : LikeM (M.step i) (M'.step i) := by
  have hks : ∀ q : Option K7, M.ks[i]? = q → M'.ks[i]? = q := by
    intro q hq
    have e := h.ks
    have : (show List K7 from M.ks)[i]? = (show List K7 from M'.ks)[i]? := by rw [e]
    exact this.symm.trans hq
  cases hk : (show List K7 from M.ks)[i]? with
  | none =>
    have e1 : M.step i = M := by unfold Mach.step; rw [show M.ks[i]? = none from hk]
    have e2 : M'.step i = M' := by unfold Mach.step; rw [show M'.ks[i]? = none from hks none hk]
    rw [e1, e2]
    exact h
  | some k =>
    obtain ⟨j, l⟩ := k
    cases l with
    | nil =>
      rw [step_nil hk, step_nil (hks _ hk)]
      exact h
    | cons x l =>
      rw [step_cons hk, step_cons (hks _ hk)]
      refine ⟨?_, ?_, ?_⟩
      · show (show List K7 from M.ks).set i (j, l) = (show List K7 from M'.ks).set i (j, l)
        rw [h.ks]
      · rw [act_steps, act_steps]
        simp only
        rw [h.steps]
      · refine act_like (σ := { M.σ with steps := M.σ.steps.set i (M.σ.steps.getD i 0 + 1) }) (τ := { M'.σ with steps := M'.σ.steps.set i (M'.σ.steps.getD i 0 + 1) }) ?_ x j
        exact ⟨h.like.c, h.like.xs, h.like.sums⟩
theorem fin_like {M : Mach (S7 a b sb ns)} {M' : Mach (S7 a' b' sb' ns)} (h : LikeM M M') (i : Nat) : ∀ k, LikeM (M.fin i k) (M'.fin i k)
  | 0 => h
  | k + 1 => step_like (fin_like h i k) i
theorem over_like {M : Mach (S7 a b sb ns)} {M' : Mach (S7 a' b' sb' ns)} (h : LikeM M M') (i : Nat) : M.over i = M'.over i := by
  have e : (show List K7 from M.ks)[i]? = (show List K7 from M'.ks)[i]? := by rw [h.ks]
  cases hk : (show List K7 from M.ks)[i]? with
  | none =>
    have e1 : M.ks[i]? = none := hk
    have e2 : M'.ks[i]? = none := e.symm.trans hk
    unfold Mach.over
    rw [e1, e2]
  | some k =>
    have e1 : M.ks[i]? = some k := hk
    have e2 : M'.ks[i]? = some k := e.symm.trans hk
    rw [over_at e1, over_at e2]
    rfl
theorem may_like {M : Mach (S7 a b sb ns)} {M' : Mach (S7 a' b' sb' ns)} (h : LikeM M M') (p : Int) : M.may p = M'.may p := by
  have e : M.ks.length = M'.ks.length := by
    have := congrArg List.length h.ks
    exact this
  unfold Mach.may
  rw [over_like h, e]
theorem pick_like {M : Mach (S7 a b sb ns)} {M' : Mach (S7 a' b' sb' ns)} (h : LikeM M M') (n : Int) (p : Int) : LikeM (Mach.pick (M, n) p).1 (Mach.pick (M', n) p).1 ∧ (Mach.pick (M, n) p).2 = (Mach.pick (M', n) p).2 := by
  unfold Mach.pick
  simp only
  rw [may_like h p]
  split
  · exact ⟨step_like h _, rfl⟩
  · exact ⟨h, rfl⟩
theorem foldl_like : ∀ (ps : List Int) {M : Mach (S7 a b sb ns)} {M' : Mach (S7 a' b' sb' ns)} (n : Int) (h : LikeM M M'), LikeM (ps.foldl Mach.pick (M, n)).1 (ps.foldl Mach.pick (M', n)).1 ∧ (ps.foldl Mach.pick (M, n)).2 = (ps.foldl Mach.pick (M', n)).2
  | [], M, M', n, h => ⟨h, rfl⟩
  | p :: ps, M, M', n, h => by
    obtain ⟨h1, h2⟩ := pick_like h n p
    rw [List.foldl_cons, List.foldl_cons]
    have e1 : Mach.pick (M, n) p = ((Mach.pick (M, n) p).1, (Mach.pick (M, n) p).2) := rfl
    have e2 : Mach.pick (M', n) p = ((Mach.pick (M', n) p).1, (Mach.pick (M, n) p).2) := by rw [h2]
    rw [e1, e2]
    exact foldl_like ps _ h1
theorem run_like {M : Mach (S7 a b sb ns)} {M' : Mach (S7 a' b' sb' ns)} (h : LikeM M M') (ps : List Int) : LikeM (M.run ps).1 (M'.run ps).1 ∧ (M.run ps).2 = (M'.run ps).2 := foldl_like ps 0 h
/-- How many were done before does not matter. -/
theorem foldl_count {S : Sys} : ∀ (ps : List Int) (M : Mach S) (n : Int), (ps.foldl Mach.pick (M, n)).1 = (M.run ps).1 ∧ (ps.foldl Mach.pick (M, n)).2 = n + (M.run ps).2
  | [], M, n => ⟨rfl, by show n = n + 0; omega⟩
  | p :: ps, M, n => by
    have h1 := foldl_count ps (Mach.pick (M, n) p).1 (Mach.pick (M, n) p).2
    have h2 := foldl_count ps (Mach.pick (M, 0) p).1 (Mach.pick (M, 0) p).2
    have e : (Mach.pick (M, n) p).1 = (Mach.pick (M, 0) p).1 ∧ (Mach.pick (M, n) p).2 = n + (Mach.pick (M, 0) p).2 := by
      unfold Mach.pick
      simp only
      split
      · exact ⟨rfl, by simp only; omega⟩
      · exact ⟨rfl, by simp only; omega⟩
    show ((p :: ps).foldl Mach.pick (M, n)).1 = ((p :: ps).foldl Mach.pick (M, 0)).1 ∧ ((p :: ps).foldl Mach.pick (M, n)).2 = n + ((p :: ps).foldl Mach.pick (M, 0)).2
    rw [List.foldl_cons, List.foldl_cons]
    exact ⟨by rw [h1.1, h2.1, e.1], by rw [h1.2, h2.2, e.1, e.2]; omega⟩
theorem run_append {S : Sys} (M : Mach S) (ps qs : List Int) : (M.run (ps ++ qs)).1 = ((M.run ps).1.run qs).1 ∧ (M.run (ps ++ qs)).2 = (M.run ps).2 + ((M.run ps).1.run qs).2 := by
  have h : M.run (ps ++ qs) = qs.foldl Mach.pick ((M.run ps).1, (M.run ps).2) := by unfold Mach.run; rw [List.foldl_append]
  rw [h]
  exact foldl_count qs _ _
/-- One task alone, picked again and again. -/
theorem run_zeros {S : Sys} (M : Mach S) (h : M.ks.length = 1) : ∀ k, (M.run (List.replicate k 0)).1 = M.fin 0 k
  | 0 => rfl
  | k + 1 => by
    rw [List.replicate_succ', (run_append M _ _).1, run_zeros M h k]
    show (Mach.pick ((M.fin 0 k), 0) 0).1 = (M.fin 0 k).step 0
    unfold Mach.pick
    simp only
    split
    · rfl
    · rename_i hm
      have hl : (M.fin 0 k).ks.length = 1 := by rw [Mach.fin_len, h]
      unfold Mach.may at hm
      simp [hl] at hm
      exact (Mach.step_over hm).symm

theorem run_zeros_count {M : Mach (S7 a b sb ns)} {j s : Nat} {l : List Acc} (h : M.ks.length = 1) (hk : M.ks[0]? = some (j, l)) (hs : M.σ.steps[0]? = some s) : ∀ k, (M.run (List.replicate k 0)).2 = ((min k l.length : Nat) : Int)
  | 0 => by simp [Mach.run]
  | k + 1 => by
    rw [List.replicate_succ', (run_append M _ _).2, run_zeros_count h hk hs k, run_zeros M h k]
    show _ + (Mach.pick ((M.fin 0 k), 0) 0).2 = _
    have hl : (M.fin 0 k).ks.length = 1 := by rw [Mach.fin_len, h]
    have hm : (M.fin 0 k).may 0 = !decide (l.length ≤ k) := by
      unfold Mach.may
      rw [hl, ← fin_over hk hs k]
      simp
    unfold Mach.pick
    simp only
    rw [hm]
    by_cases hlt : l.length ≤ k
    · rw [decide_eq_true hlt]
      simp
      omega
    · rw [decide_eq_false hlt]
      simp
      omega
end Go.Proofs.Ythllplocbciepaa.Cod.Seven
