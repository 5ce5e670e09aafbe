/- Layer 9's laws, in plain Lean: tickets that lie one behind the other. -/
import Derived.Test.YtndpkonihcebeaaMem9
namespace Go.Proofs.Ytndpkonihcebeaa.Kod.Nine
open Go.RowKit Go.Proofs.Ytndpkonihcebeaa Go.Proofs.Ytndpkonihcebeaa.Cell Go.Proofs.Ytndpkonihcebeaa.Wd
set_option linter.unusedVariables false
set_option linter.unusedSimpArgs false

/-- Tickets that lie one behind the other. -/
def Chn (nn : Nat) (xs : List Int) : Int → List Int → Prop
  | f, [] => f = -1
  | f, i :: t => f = i ∧ 0 ≤ i ∧ i < nn ∧ 0 ≤ xs.getD (i + 2).toNat 0 ∧ xs.getD (i + 2).toNat 0 ≤ nn ∧ Chn nn xs (xs.getD (i + 2).toNat 0 - 1) t
theorem Chn.mem {nn : Nat} {xs : List Int} : ∀ {s : List Int} {f : Int}, Chn nn xs f s → ∀ i ∈ s, 0 ≤ i ∧ i < nn
  | [], f, h, i, hi => by simp at hi
  | x :: t, f, h, i, hi => by
    obtain ⟨rfl, h0, h1, _, _, h2⟩ := h
    rcases List.mem_cons.1 hi with rfl | hi
    · exact ⟨h0, h1⟩
    · exact h2.mem i hi
theorem getD_set (xs : List Int) (i j : Nat) (v : Int) (h : i ≠ j) : (xs.set i v).getD j 0 = xs.getD j 0 := by
  rw [List.getD_eq_getElem?_getD, List.getD_eq_getElem?_getD, List.getElem?_set_ne h]
theorem getD_set_self (xs : List Int) (i : Nat) (v : Int) (h : i < xs.length) : (xs.set i v).getD i 0 = v := by
  rw [List.getD_eq_getElem?_getD, List.getElem?_set_self h]
  rfl
/-- Other cells may be written. -/
theorem Chn.set {nn : Nat} {xs : List Int} {n : Nat} {v : Int} : ∀ {s : List Int} {f : Int}, Chn nn xs f s → (∀ i ∈ s, (i + 2).toNat ≠ n) → Chn nn (xs.set n v) f s
  | [], f, h, _ => h
  | x :: t, f, h, hn => by
    obtain ⟨rfl, h0, h1, h2, h3, h4⟩ := h
    have e := getD_set xs n (f + 2).toNat v (hn f List.mem_cons_self).symm
    refine ⟨rfl, h0, h1, by rw [e]; exact h2, by rw [e]; exact h3, ?_⟩
    rw [e]
    exact h4.set fun i hi => hn i (List.mem_cons_of_mem _ hi)
theorem Chn.lo {nn : Nat} {xs : List Int} {s : List Int} {f : Int} (h : Chn nn xs f s) : -1 ≤ f ∧ f < nn := by
  cases s with
  | nil => obtain rfl : f = -1 := h; omega
  | cons i t => obtain ⟨rfl, h0, h1, _⟩ := h; omega
theorem Chn.nil {nn : Nat} {xs : List Int} {s : List Int} {f : Int} (h : Chn nn xs f s) (hf : f < 0) : s = [] := by
  cases s with
  | nil => rfl
  | cons i t => obtain ⟨rfl, h0, h1, _⟩ := h; omega
theorem Chn.cons {nn : Nat} {xs : List Int} {s : List Int} {f : Int} (h : Chn nn xs f s) (hf : 0 ≤ f) : ∃ t, s = f :: t ∧ Chn nn xs (xs.getD (f + 2).toNat 0 - 1) t ∧ f < nn ∧ 0 ≤ xs.getD (f + 2).toNat 0 ∧ xs.getD (f + 2).toNat 0 ≤ nn := by
  cases s with
  | nil => obtain rfl : f = -1 := h; omega
  | cons i t => obtain ⟨rfl, h0, h1, h2, h3, h4⟩ := h; exact ⟨t, rfl, h4, h1, h2, h3⟩
/-- Different things below a bound are no more than the bound. -/
theorem few_of : ∀ (n : Nat) (s : List Int), s.Nodup → (∀ i ∈ s, 0 ≤ i ∧ i < n) → s.length ≤ n := by
  intro n
  induction n with
  | zero =>
    intro s _ h
    cases s with
    | nil => simp
    | cons x t => have := h x List.mem_cons_self; omega
  | succ n ih =>
    intro s hd h
    have h1 := ih (s.erase (n : Int)) (hd.erase _) (fun i hi => by
      have h2 := h i (List.mem_of_mem_erase hi)
      have h3 : i ≠ n := fun e => by
        subst e
        exact (List.Nodup.not_mem_erase hd) hi
      omega)
    rw [List.length_erase] at h1
    split at h1 <;> omega
theorem ld_at {R : Type} (σ : St R) {i : Int} (h0 : 0 ≤ i) (h1 : i < σ.xs.length) : σ.ld i = (σ.xs.getD i.toNat 0, { σ with c := σ.c + 1 }) := by
  have h : 0 ≤ i ∧ i.toNat < σ.xs.length := ⟨h0, by omega⟩
  unfold St.ld
  rw [dif_pos h, List.getD_eq_getElem?_getD, List.getElem?_eq_getElem h.2]
  rfl
theorem sto_at {R : Type} (σ : St R) {i v : Int} (h0 : 0 ≤ i) (h1 : i < σ.xs.length) : σ.sto i v = { σ with c := σ.c + 1, xs := σ.xs.set i.toNat v } := by
  unfold St.sto
  rw [if_pos ⟨h0, by omega⟩]
theorem cas_at {R : Type} (σ : St R) {i old v : Int} (h0 : 0 ≤ i) (h1 : i < σ.xs.length) (h2 : σ.xs.getD i.toNat 0 = old) : σ.cas i old v = (true, { σ with c := σ.c + 1, xs := σ.xs.set i.toNat v }) := by
  have h : 0 ≤ i ∧ i.toNat < σ.xs.length := ⟨h0, by omega⟩
  rw [List.getD_eq_getElem?_getD, List.getElem?_eq_getElem h.2] at h2
  unfold St.cas
  rw [dif_pos h, if_pos (show σ.xs[i.toNat] = old from h2)]
theorem cas_miss {R : Type} (σ : St R) {i old v : Int} (h0 : 0 ≤ i) (h1 : i < σ.xs.length) (h2 : ¬ σ.xs.getD i.toNat 0 = old) : σ.cas i old v = (false, { σ with c := σ.c + 1 }) := by
  have h : 0 ≤ i ∧ i.toNat < σ.xs.length := ⟨h0, by omega⟩
  rw [List.getD_eq_getElem?_getD, List.getElem?_eq_getElem h.2] at h2
  unfold St.cas
  rw [dif_pos h, if_neg (show ¬ σ.xs[i.toNat] = old from h2)]
end Go.Proofs.Ytndpkonihcebeaa.Kod.Nine
