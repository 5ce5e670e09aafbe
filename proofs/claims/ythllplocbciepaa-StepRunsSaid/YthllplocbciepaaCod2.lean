/- Work that is cut into steps: the accesses, in plain words. -/
import Derived.Test.YthllplocbciepaaCod
namespace Go.Proofs.Ythllplocbciepaa.Cod
open Go.RowKit Go.Proofs.Ythllplocbciepaa Go.Proofs.Ythllplocbciepaa.Cell
set_option linter.unusedVariables false
set_option linter.unusedSimpArgs false
variable {S : Sys}

theorem mem_set_wide {xs : List Int} {P : Int → Prop} (h : ∀ x ∈ xs, P x) {v : Int} (hv : P v) (i : Nat) : ∀ x ∈ xs.set i v, P x := fun x hx => by
  rcases List.mem_or_eq_of_mem_set hx with h1 | h1
  · exact h x h1
  · exact h1 ▸ hv
theorem rets_eq {k : IntKind} {a b : Int} (h : a = b) : Ending.returned (.int k a) = .returned (.int k b) := by rw [h]
theorem Ld_c {n : Nat} {σ : St S.R} {rs : List Value} {L : Lay} {w : World} (h : Inv S (n + 1) σ rs L w) (i : Int) :
    Calls Try.prog 65 #[.pointer (some ⟨S.a, 0, none⟩), .int .i64 i] w fun e w' => e = .returned (.int .u64 (σ.ld i).1) ∧ Inv S n (σ.ld i).2 rs L w' ∧ Turned S.a S.b w w' := by
  by_cases hi : 0 ≤ i ∧ i.toNat < σ.xs.length
  · obtain ⟨j, rfl⟩ := Int.eq_ofNat_of_zero_le hi.1
    have hj : j < σ.xs.length := by have := hi.2; simpa using this
    have e : σ.ld (j : Int) = (σ.xs[j], { σ with c := σ.c + 1 }) := by unfold St.ld; rw [dif_pos hi]; simp
    rw [e]
    refine (Load_yes h.ar (by have := h.fuel; omega) j hj).mono ?_
    rintro e w' ⟨rfl, ha, ht⟩
    exact ⟨rfl, h.turn ht ha (by omega) h.wide rfl, ht⟩
  · have e : σ.ld i = (0, σ) := by unfold St.ld; rw [dif_neg hi]
    rw [e]
    refine (Load_no h.ar i (by omega)).mono ?_
    rintro e w' ⟨rfl, rfl⟩
    exact ⟨rfl, h.lower (by omega), Turned.refl _ _ _⟩
theorem Sto_c {n : Nat} {σ : St S.R} {rs : List Value} {L : Lay} {w : World} (h : Inv S (n + 1) σ rs L w) (i v : Int) (hv : 0 ≤ v ∧ v < 18446744073709551616) :
    Calls Try.prog 85 #[.pointer (some ⟨S.a, 0, none⟩), .int .i64 i, .int .u64 v] w fun e w' => (∃ b, e = .returned (.bool b)) ∧ Inv S n (σ.sto i v) rs L w' ∧ Turned S.a S.b w w' := by
  by_cases hi : 0 ≤ i ∧ i.toNat < σ.xs.length
  · obtain ⟨j, rfl⟩ := Int.eq_ofNat_of_zero_le hi.1
    have hj : j < σ.xs.length := by have := hi.2; simpa using this
    have e : σ.sto (j : Int) v = { σ with c := σ.c + 1, xs := σ.xs.set j v } := by unfold St.sto; rw [if_pos hi]; simp
    rw [e]
    refine (Store_yes h.ar (by have := h.fuel; omega) j v hj).mono ?_
    rintro e w' ⟨rfl, ha, ht⟩
    exact ⟨⟨_, rfl⟩, h.turn ht ha (by omega) (mem_set_wide h.wide hv _) (by simp), ht⟩
  · have e : σ.sto i v = σ := by unfold St.sto; rw [if_neg hi]
    rw [e]
    refine (Store_no h.ar i v (by omega)).mono ?_
    rintro e w' ⟨rfl, rfl⟩
    exact ⟨⟨_, rfl⟩, h.lower (by omega), Turned.refl _ _ _⟩
theorem Swp_c {n : Nat} {σ : St S.R} {rs : List Value} {L : Lay} {w : World} (h : Inv S (n + 1) σ rs L w) (i v : Int) (hv : 0 ≤ v ∧ v < 18446744073709551616) :
    Calls Try.prog 88 #[.pointer (some ⟨S.a, 0, none⟩), .int .i64 i, .int .u64 v] w fun e w' => e = .returned (.int .u64 (σ.swp i v).1) ∧ Inv S n (σ.swp i v).2 rs L w' ∧ Turned S.a S.b w w' := by
  by_cases hi : 0 ≤ i ∧ i.toNat < σ.xs.length
  · obtain ⟨j, rfl⟩ := Int.eq_ofNat_of_zero_le hi.1
    have hj : j < σ.xs.length := by have := hi.2; simpa using this
    have e : σ.swp (j : Int) v = (σ.xs[j], { σ with c := σ.c + 1, xs := σ.xs.set j v }) := by unfold St.swp St.ld St.sto; rw [dif_pos hi, if_pos hi]; simp
    rw [e]
    refine (Swap_yes h.ar (by have := h.fuel; omega) j v hj).mono ?_
    rintro e w' ⟨rfl, ha, ht⟩
    exact ⟨rfl, h.turn ht ha (by omega) (mem_set_wide h.wide hv _) (by simp), ht⟩
  · have e : σ.swp i v = (0, σ) := by unfold St.swp St.ld St.sto; rw [dif_neg hi, if_neg hi]
    rw [e]
    refine (Swap_no h.ar i v (by omega)).mono ?_
    rintro e w' ⟨rfl, rfl⟩
    exact ⟨rfl, h.lower (by omega), Turned.refl _ _ _⟩
theorem Cas_c {n : Nat} {σ : St S.R} {rs : List Value} {L : Lay} {w : World} (h : Inv S (n + 1) σ rs L w) (i o v : Int) (hv : 0 ≤ v ∧ v < 18446744073709551616) :
    Calls Try.prog 90 #[.pointer (some ⟨S.a, 0, none⟩), .int .i64 i, .int .u64 o, .int .u64 v] w fun e w' => e = .returned (.bool (σ.cas i o v).1) ∧ Inv S n (σ.cas i o v).2 rs L w' ∧ Turned S.a S.b w w' := by
  by_cases hi : 0 ≤ i ∧ i.toNat < σ.xs.length
  · obtain ⟨j, rfl⟩ := Int.eq_ofNat_of_zero_le hi.1
    have hj : j < σ.xs.length := by have := hi.2; simpa using this
    by_cases ho : σ.xs[j] = o
    · have e : σ.cas (j : Int) o v = (true, { σ with c := σ.c + 1, xs := σ.xs.set j v }) := by unfold St.cas; rw [dif_pos hi]; simp [ho]
      rw [e]
      refine (Cas_hit h.ar (by have := h.fuel; omega) j o v hj ho).mono ?_
      rintro e w' ⟨rfl, ha, ht⟩
      exact ⟨rfl, h.turn ht ha (by omega) (mem_set_wide h.wide hv _) (by simp), ht⟩
    · have e : σ.cas (j : Int) o v = (false, { σ with c := σ.c + 1 }) := by unfold St.cas; rw [dif_pos hi]; simp [ho]
      rw [e]
      refine (Cas_miss h.ar (by have := h.fuel; omega) j o v hj ho).mono ?_
      rintro e w' ⟨rfl, ha, ht⟩
      exact ⟨rfl, h.turn ht ha (by omega) h.wide rfl, ht⟩
  · have e : σ.cas i o v = (false, σ) := by unfold St.cas; rw [dif_neg hi]
    rw [e]
    refine (Cas_no h.ar i o v (by omega)).mono ?_
    rintro e w' ⟨rfl, rfl⟩
    exact ⟨rfl, h.lower (by omega), Turned.refl _ _ _⟩
end Go.Proofs.Ythllplocbciepaa.Cod
