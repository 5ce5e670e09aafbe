/- Layer 8's laws: a task alone, in plain Lean. -/
import Derived.Test.YthllplocbciepaaFew8
namespace Go.Proofs.Ythllplocbciepaa.Kod.Eight
open Go.RowKit Go.Proofs.Ythllplocbciepaa Go.Proofs.Ythllplocbciepaa.Cell Go.Proofs.Ythllplocbciepaa.Wd
set_option linter.unusedVariables false
set_option linter.unusedSimpArgs false
variable {a b : Nat} {gb : Nat → Nat}

/-- Things that lie one behind the other. -/
def Chain (xs : List Int) : Int → List Int → Prop
  | f, [] => f = -1
  | f, i :: t => f = i ∧ 0 ≤ i ∧ i + 1 < xs.length ∧ 0 ≤ xs.getD (i + 1).toNat 0 ∧ xs.getD (i + 1).toNat 0 ≤ xs.length ∧ Chain xs (xs.getD (i + 1).toNat 0 - 1) t
/-- Cells that are a stack with these things. -/
structure Stk (xs : List Int) (s : List Int) : Prop where
  pos : 0 < xs.length
  few : xs.length ≤ 1000
  chain : Chain xs (ix (xs.getD 0 0)) s
  once : s.Nodup
theorem Chain.mem {xs : List Int} : ∀ {s : List Int} {f : Int}, Chain xs f s → ∀ i ∈ s, 0 ≤ i ∧ i + 1 < xs.length
  | [], f, h, i, hi => by simp at hi
  | x :: t, f, h, i, hi => by
    obtain ⟨rfl, h0, h1, _, _, h2⟩ := h
    rcases List.mem_cons.1 hi with rfl | hi
    · exact ⟨h0, h1⟩
    · exact h2.mem i hi
theorem getD_set (xs : List Int) (i j : Nat) (v : Int) (h : i ≠ j) : (xs.set i v).getD j 0 = xs.getD j 0 := by
  rw [List.getD_eq_getElem?_getD, List.getD_eq_getElem?_getD, List.getElem?_set_ne h]
theorem getD_set_self (xs : List Int) (i : Nat) (v : Int) (h : i < xs.length) : (xs.set i v).getD i 0 = v := by
  rw [List.getD_eq_getElem?_getD, List.getElem?_set_self h]
  rfl
/-- Other cells may be written. -/
theorem Chain.set {xs : List Int} {n : Nat} {v : Int} : ∀ {s : List Int} {f : Int}, Chain xs f s → (∀ i ∈ s, (i + 1).toNat ≠ n) → Chain (xs.set n v) f s
  | [], f, h, _ => h
  | x :: t, f, h, hn => by
    obtain ⟨rfl, h0, h1, h2, h3, h4⟩ := h
    have e := getD_set xs n (f + 1).toNat v (hn f List.mem_cons_self).symm
    refine ⟨rfl, h0, by simpa using h1, by rw [e]; exact h2, by rw [e]; simpa using h3, ?_⟩
    rw [e]
    exact h4.set fun i hi => hn i (List.mem_cons_of_mem _ hi)
theorem Stk.mem {xs s : List Int} (h : Stk xs s) : ∀ i ∈ s, 0 ≤ i ∧ i + 1 < xs.length := h.chain.mem
theorem Stk.empty {n : Nat} (hn : n ≤ 100) : Stk (List.replicate (1 + n) 0) [] := by
  refine ⟨by simp; omega, by simp; omega, ?_, List.nodup_nil⟩
  show ix _ = -1
  rw [List.getD_eq_getElem?_getD, List.getElem?_replicate, if_pos (by omega)]
  rfl
/-- One is taken. -/
theorem Stk.pop {xs t : List Int} {i : Int} (h : Stk xs (i :: t)) : ix (xs.getD 0 0) = i ∧ Stk (xs.set 0 (turnTo (xs.getD 0 0) (nx (xs.getD (i + 1).toNat 0)))) t := by
  obtain ⟨h1, h2, ⟨h3, h4, h5, h6, h7, h8⟩, h9⟩ := h
  refine ⟨h3, ?_⟩
  have hnx : nx (xs.getD (i + 1).toNat 0) = xs.getD (i + 1).toNat 0 - 1 := nx_small h6 (by omega)
  refine ⟨by simpa using h1, by simpa using h2, ?_, (List.nodup_cons.1 h9).2⟩
  rw [getD_set_self _ _ _ h1, hnx, ix_turn (by omega) (by omega)]
  exact h8.set fun k hk => by have := (h8.mem k hk).1; omega
/-- One is put ahead. -/
theorem Stk.push {xs s : List Int} {i : Int} (h : Stk xs s) (h0 : 0 ≤ i) (h1 : i + 1 < xs.length) (hi : i ∉ s) : Stk ((xs.set (i + 1).toNat (ix (xs.getD 0 0) + 1)).set 0 (turnTo (xs.getD 0 0) i)) (i :: s) := by
  have hlo := ix_lo (xs.getD 0 0)
  have hix : ix (xs.getD 0 0) + 1 ≤ xs.length := by
    cases s with
    | nil => have := h.chain; simp only [Chain] at this; omega
    | cons x t => obtain ⟨e, h2, h3, _⟩ := h.chain; omega
  have hne : (0 : Nat) ≠ (i + 1).toNat := by omega
  have hlt : (i + 1).toNat < xs.length := by omega
  refine ⟨by simpa using h.pos, by simpa using h.few, ?_, List.nodup_cons.2 ⟨hi, h.once⟩⟩
  have hfew := h.few
  rw [getD_set_self _ _ _ (by simpa using h.pos), ix_turn (by omega) (by omega)]
  have e : ((xs.set (i + 1).toNat (ix (xs.getD 0 0) + 1)).set 0 (turnTo (xs.getD 0 0) i)).getD (i + 1).toNat 0 = ix (xs.getD 0 0) + 1 := by
    rw [getD_set _ _ _ _ hne, getD_set_self _ _ _ hlt]
  refine ⟨rfl, h0, by simpa using h1, by rw [e]; omega, by rw [e]; simpa using hix, ?_⟩
  rw [e, show ix (xs.getD 0 0) + 1 - 1 = ix (xs.getD 0 0) by omega]
  refine (h.chain.set fun k hk => ?_).set fun k hk => by have := (h.mem k hk).1; omega
  have h2 := (h.mem k hk).1
  have h3 : k ≠ i := fun e => hi (e ▸ hk)
  omega

theorem ld_at {R : Type} (σ : St R) {i : Int} (h0 : 0 ≤ i) (h1 : i < σ.xs.length) : σ.ld i = (σ.xs.getD i.toNat 0, { σ with c := σ.c + 1 }) := by
  have h : 0 ≤ i ∧ i.toNat < σ.xs.length := ⟨h0, by omega⟩
  unfold St.ld
  rw [dif_pos h, List.getD_eq_getElem?_getD, List.getElem?_eq_getElem h.2]
  rfl
theorem sto_at {R : Type} (σ : St R) {i v : Int} (h0 : 0 ≤ i) (h1 : i < σ.xs.length) : σ.sto i v = { σ with c := σ.c + 1, xs := σ.xs.set i.toNat v } := by
  unfold St.sto
  rw [if_pos ⟨h0, by omega⟩]
theorem cas_at {R : Type} (σ : St R) {i old v : Int} (h0 : 0 ≤ i) (h1 : i < σ.xs.length) (h2 : σ.xs.getD i.toNat 0 = old) : σ.cas i old v = (true, { σ with c := σ.c + 1, xs := σ.xs.set i.toNat v }) := by
  have h : 0 ≤ i ∧ i.toNat < σ.xs.length := ⟨h0, by omega⟩
  rw [List.getD_eq_getElem?_getD, List.getElem?_eq_getElem h.2] at h2
  unfold St.cas
  rw [dif_pos h, if_pos (show σ.xs[i.toNat] = old from h2)]

/-- A task goes on alone, t steps. -/
inductive Way (p : Nat) : Nat → Mach (S8 a b gb) → Mach (S8 a b gb) → Prop
  | stop (M) : Way p 0 M M
  | go {t M M'} : M.over p = false → M.can p → Way p t (M.step p) M' → Way p (t + 1) M M'
theorem Way.trans {p t u : Nat} {M M' M'' : Mach (S8 a b gb)} (h : Way p t M M') (k : Way p u M' M'') : Way p (t + u) M M'' := by
  induction h with
  | stop M => rw [Nat.zero_add]; exact k
  | @go t M M' h1 h2 h3 ih => rw [show t + 1 + u = t + u + 1 by omega]; exact .go h1 h2 (ih k)
theorem fin_shift (M : Mach (S8 a b gb)) (p j : Nat) : M.fin p (j + 1) = (M.step p).fin p j := by
  induction j with
  | zero => rfl
  | succ j ih =>
    show (M.fin p (j + 1)).step p = _
    rw [ih]
    rfl
theorem Way.fin {p t : Nat} {M M' : Mach (S8 a b gb)} (h : Way p t M M') : M.fin p t = M' ∧ ∀ u, u < t → (M.fin p u).over p = false ∧ (M.fin p u).can p := by
  induction h with
  | stop M => exact ⟨rfl, fun u hu => by omega⟩
  | @go t M M' h1 h2 h3 ih =>
    refine ⟨by rw [fin_shift]; exact ih.1, fun u hu => ?_⟩
    cases u with
    | zero => exact ⟨h1, h2⟩
    | succ u => rw [fin_shift]; exact ih.2 u (by omega)
/-- One step. -/
theorem Way.one {p : Nat} {M : Mach (S8 a b gb)} {k k' : K8} {σ' : St (List W8)} (hk : M.ks[p]? = some k) (hn : (S8 a b gb).nil k = false) (hs : next8 k { M.σ with steps := M.σ.steps.set p (M.σ.steps.getD p 0 + 1) } = some (k', σ')) : Way p 1 M ⟨M.ks.set p k', σ'⟩ := by
  have e : M.step p = ⟨M.ks.set p k', σ'⟩ := by
    unfold Mach.step
    rw [hk]
    simp only [hn]
    have hs' : (S8 a b gb).next k { M.σ with steps := M.σ.steps.set p (M.σ.steps.getD p 0 + 1) } = some (k', σ') := hs
    rw [hs']
    rfl
  refine .go ?_ (fun k2 h2 _ => ⟨(k', σ'), ?_⟩) (by rw [e]; exact .stop _)
  · unfold Mach.over
    rw [hk]
    exact hn
  · rw [hk] at h2
    obtain rfl := Option.some.inj h2
    exact hs

/-- One act of a task that is alone: the stack, what it has. -/
def act8 (z : List Int × W8) : Bool → List Int × W8
  | true => match z.1 with
    | [] => ([], told { z.2 with busy := true, bare := false } (-1) false)
    | i :: t => (t, told { z.2 with busy := true, bare := false } i true)
  | false => match z.2.hands.getLast? with
    | none => z
    | some i => (i :: z.1, { z.2 with hands := z.2.hands.dropLast })
/-- The stack and what a task has are other things. -/
structure Fit (xs : List Int) (s : List Int) (x : W8) (n : Nat) : Prop where
  stk : Stk xs s
  all : (s ++ x.hands).Nodup
  rng : ∀ i ∈ x.hands, 0 ≤ i ∧ i + 1 < xs.length
  few : (s ++ x.hands).length ≤ 1000
  got : ∀ g, x.got = some g → g.length + n ≤ 1000
theorem enter_some {j : Nat} : ∀ (l : List Bool) {σ : St (List W8)} {x : W8}, σ.r[j]? = some x → ∃ y, enter j l σ = some y
  | [], σ, x, h => ⟨_, rfl⟩
  | true :: l, σ, x, h => by
    unfold enter
    rw [h]
    exact ⟨_, rfl⟩
  | false :: l, σ, x, h => by
    unfold enter
    rw [h]
    simp only
    cases x.hands.getLast? with
    | none => exact enter_some l h
    | some i => exact ⟨_, rfl⟩
theorem Fit.room {xs s : List Int} {x : W8} {n : Nat} (h : Fit xs s x n) : Eight.room { x with busy := true, bare := false } := by
  refine ⟨?_, fun g hg => ?_⟩
  · have := h.few
    simp only [List.length_append] at this
    show x.hands.length < 1000000
    omega
  · have := h.got g hg
    omega
theorem last_split {l : List Int} {i : Int} (h : l.getLast? = some i) : l = l.dropLast ++ [i] := by
  have hne : l ≠ [] := fun e => by rw [e] at h; simp at h
  rw [List.getLast?_eq_some_getLast hne] at h
  rw [← Option.some.inj h]
  exact (List.dropLast_concat_getLast hne).symm
theorem Fit.popNil {xs : List Int} {x : W8} {n : Nat} (h : Fit xs [] x (n + 1)) : Fit xs [] (told { x with busy := true, bare := false } (-1) false) n := by
  refine ⟨h.stk, by simpa [told] using h.all, by simpa [told] using h.rng, by simpa [told] using h.few, fun g hg => ?_⟩
  simp only [told, Option.map_eq_some_iff] at hg
  obtain ⟨g0, h0, rfl⟩ := hg
  have := h.got g0 h0
  simp only [List.length_append, List.length_singleton]
  omega
theorem Fit.popCons {xs t : List Int} {i : Int} {x : W8} {n : Nat} {v : Int} (h : Fit xs (i :: t) x (n + 1)) (hs : Stk (xs.set 0 v) t) : Fit (xs.set 0 v) t (told { x with busy := true, bare := false } i true) n := by
  have hp : ((i :: t) ++ x.hands).Perm (t ++ (x.hands ++ [i])) := by
    rw [← List.append_assoc]
    exact (List.perm_append_singleton i (t ++ x.hands)).symm
  refine ⟨hs, ?_, fun k hk => ?_, ?_, fun g hg => ?_⟩
  · show (t ++ (x.hands ++ [i])).Nodup
    exact hp.nodup_iff.1 h.all
  · have hk' : k ∈ x.hands ++ [i] := hk
    rw [List.length_set]
    rcases List.mem_append.1 hk' with hk' | hk'
    · exact h.rng k hk'
    · obtain rfl : k = i := by simpa using hk'
      exact h.stk.mem k List.mem_cons_self
  · show (t ++ (x.hands ++ [i])).length ≤ 1000
    rw [← hp.length_eq]
    exact h.few
  · simp only [told, Option.map_eq_some_iff] at hg
    obtain ⟨g0, h0, rfl⟩ := hg
    have := h.got g0 h0
    simp only [List.length_append, List.length_singleton]
    omega
theorem Fit.push {xs s : List Int} {i : Int} {x : W8} {n : Nat} (h : Fit xs s x n) (hl : x.hands.getLast? = some i) : Fit ((xs.set (i + 1).toNat (ix (xs.getD 0 0) + 1)).set 0 (turnTo (xs.getD 0 0) i)) (i :: s) { x with hands := x.hands.dropLast } n := by
  have hsp := last_split hl
  have hin : i ∈ x.hands := by rw [hsp]; simp
  have hp : (s ++ x.hands).Perm ((i :: s) ++ x.hands.dropLast) := by
    conv => lhs; rw [hsp]
    rw [← List.append_assoc]
    exact List.perm_append_singleton i (s ++ x.hands.dropLast)
  have hni : i ∉ s := fun e => (List.nodup_append.1 h.all).2.2 i e i hin rfl
  refine ⟨h.stk.push (h.rng i hin).1 (h.rng i hin).2 hni, hp.nodup_iff.1 h.all, fun k hk => ?_, ?_, h.got⟩
  · have := h.rng k (List.mem_of_mem_take (List.dropLast_eq_take ▸ hk))
    simpa using this
  · have := hp.length_eq
    have h2 := h.few
    simp only at this ⊢
    omega
theorem Fit.less {xs s : List Int} {x : W8} {n m : Nat} (h : Fit xs s x n) (hm : m ≤ n) : Fit xs s x m := ⟨h.stk, h.all, h.rng, h.few, fun g hg => by have := h.got g hg; omega⟩
end Go.Proofs.Ythllplocbciepaa.Kod.Eight
