/- Layer 9's laws: a task alone comes to its end. -/
import Derived.Test.YtndpkonihcebeaaSolo9
namespace Go.Proofs.Ytndpkonihcebeaa.Kod.Nine
open Go.RowKit Go.Proofs.Ytndpkonihcebeaa Go.Proofs.Ytndpkonihcebeaa.Cell Go.Proofs.Ytndpkonihcebeaa.Wd
set_option linter.unusedVariables false
set_option linter.unusedSimpArgs false
variable {a b : Nat} {eb : Option Nat} {nn : Nat} {dead : Int → Bool}

/-- A task goes on alone, t steps. -/
inductive Way {S : Sys} (p : Nat) : Nat → Mach S → Mach S → Prop
  | stop (M) : Way p 0 M M
  | go {t M M'} : M.over p = false → M.can p → Way p t (M.step p) M' → Way p (t + 1) M M'
theorem fin_shift {S : Sys} (M : Mach S) (p j : Nat) : M.fin p (j + 1) = (M.step p).fin p j := by
  induction j with
  | zero => rfl
  | succ j ih =>
    show (M.fin p (j + 1)).step p = _
    rw [ih]
    rfl
theorem Way.fin {S : Sys} {p t : Nat} {M M' : Mach S} (h : Way p t M M') : M.fin p t = M' ∧ ∀ u, u < t → (M.fin p u).over p = false ∧ (M.fin p u).can p := by
  induction h with
  | stop M => exact ⟨rfl, fun u hu => by omega⟩
  | @go t M M' h1 h2 h3 ih =>
    refine ⟨by rw [fin_shift]; exact ih.1, fun u hu => ?_⟩
    cases u with
    | zero => exact ⟨h1, h2⟩
    | succ u => rw [fin_shift]; exact ih.2 u (by omega)
/-- A step more is counted. -/
def bump (σ : St R9) (p : Nat) : St R9 := { σ with steps := σ.steps.set p (σ.steps.getD p 0 + 1) }
theorem nil9 {k : K9} : (S9 a b nn eb).nil k = true ↔ k = .done := by cases k <;> simp [S9]
theorem step_at {p : Nat} {ks : List K9} {σ σ' : St R9} {k k' : K9} (hk : ks[p]? = some k) (hd : k ≠ .done) (hs : next9 nn k (bump σ p) = some (k', σ')) : (mk a b nn eb ks σ).over p = false ∧ (mk a b nn eb ks σ).can p ∧ (mk a b nn eb ks σ).step p = mk a b nn eb (ks.set p k') σ' := by
  have hn : (S9 a b nn eb).nil k = false := by
    cases h : (S9 a b nn eb).nil k
    · rfl
    · exact absurd (nil9.1 h) hd
  have hk' : (mk a b nn eb ks σ).ks[p]? = some k := hk
  refine ⟨?_, fun k2 h2 _ => ⟨(k', σ'), ?_⟩, ?_⟩
  · unfold Mach.over
    rw [hk']
    exact hn
  · rw [hk'] at h2
    obtain rfl := Option.some.inj h2
    exact hs
  · unfold Mach.step
    rw [hk']
    simp only [hn]
    have hs' : (S9 a b nn eb).next k { (mk a b nn eb ks σ).σ with steps := (mk a b nn eb ks σ).σ.steps.set p ((mk a b nn eb ks σ).σ.steps.getD p 0 + 1) } = some (k', σ') := hs
    rw [hs']
    rfl
theorem over_done {ks : List K9} {τ : St R9} {p : Nat} (h : ks[p]? = some .done) : (mk a b nn eb ks τ).over p = true := (over_at (M := mk a b nn eb ks τ) (k := K9.done) h).trans rfl
theorem can_over {S : Sys} {M : Mach S} {p : Nat} (h : M.over p = true) : M.can p := fun k hk hn => by
  unfold Mach.over at h
  rw [hk] at h
  simp only at h
  rw [hn] at h
  simp at h
/-- What a task alone has come to. -/
structure Came9 (a b : Nat) (eb : Option Nat) (nn : Nat) (dead : Int → Bool) (p : Nat) (ks : List K9) (σ : St R9) (bl fl rl : List Int) (k : K9) (t : Nat) (τ' : St R9) (bl' fl' : List Int) : Prop where
  way : Way p t (mk a b nn eb ks σ) (mk a b nn eb (ks.set p .done) τ')
  two : Two nn dead τ'.xs bl' fl'
  fin : (bl', fl', τ'.r.own) = fin9 dead bl fl rl σ.r.own k
  ended : τ'.r.ended = σ.r.ended
  len : τ'.r.own.length = σ.r.own.length
theorem solo_run (p : Nat) : ∀ (N : Nat) (ks : List K9) (σ : St R9) (k : K9) (bl fl rl : List Int), cost9 bl rl k ≤ N → ks[p]? = some k → Two nn dead σ.xs bl fl → σ.r.ended.length < 1000000 → So nn dead σ.xs bl fl rl σ.r.own k → ∃ t τ' bl' fl', t ≤ N ∧ Came9 a b eb nn dead p ks σ bl fl rl k t τ' bl' fl' := by
  intro N
  induction N with
  | zero =>
    intro ks σ k bl fl rl hc hk T hE S
    have hkd : k = .done := by
      cases k <;> simp [cost9] at hc
      case done => rfl
      case eaL o n f =>
        obtain ⟨rfl, ha, hf, hch, _⟩ := S
        obtain ⟨r, rfl, _⟩ := hch.cons hf
        simp at hc
    subst hkd
    refine ⟨0, σ, bl, fl, Nat.le_refl _, ?_, T, rfl, rfl, rfl⟩
    rw [show ks.set p K9.done = ks from by
      apply List.ext_getElem?
      intro q
      by_cases hq : p = q
      · subst hq
        rw [List.getElem?_set_self (List.getElem?_eq_some_iff.1 hk).1, hk]
      · rw [List.getElem?_set_ne hq]]
    exact .stop _
  | succ N ih =>
    intro ks σ k bl fl rl hc hk T hE S
    by_cases hd : k = .done
    · subst hd
      refine ⟨0, σ, bl, fl, Nat.zero_le _, ?_, T, rfl, rfl, rfl⟩
      rw [show ks.set p K9.done = ks from by
        apply List.ext_getElem?
        intro q
        by_cases hq : p = q
        · subst hq
          rw [List.getElem?_set_self (List.getElem?_eq_some_iff.1 hk).1, hk]
        · rw [List.getElem?_set_ne hq]]
      exact .stop _
    · obtain ⟨k', σ', bl', fl', rl', h1, h2, h3, h4, h5, h6, h7, h8, h9⟩ := solo_step (σ := bump σ p) T hE S hd
      obtain ⟨s1, s2, s3⟩ := step_at (a := a) (b := b) (eb := eb) hk hd h1
      have hp := (List.getElem?_eq_some_iff.1 hk).1
      obtain ⟨t, τ', bl2, fl2, ht, C⟩ := ih (ks.set p k') σ' k' bl' fl' rl' (by omega) (List.getElem?_set_self hp) h2 (by rw [h6]; exact hE) h3
      refine ⟨t + 1, τ', bl2, fl2, by omega, .go s1 s2 ?_, C.two, C.fin.trans h4, C.ended.trans h6, C.len.trans h7⟩
      rw [s3]
      have := C.way
      rwa [List.set_set] at this
/-- A task that is alone is through. -/
theorem Grp.alone9 {B m n N p tb most : Nat} {ks : List K9} {τ : St R9} {k : K9} {ts gh : List Nat} {C : List (K9 × Value)} {Z : List (Option Addr × List Value)} {own : Nat → Prop} {w0 wr : World} {bl fl rl : List Int}
    (h : Grp (S9 a b nn eb) B (m + N) (n + 2 * N) (mk a b nn eb ks τ) ts gh C Z own w0 wr) (ht : ts[p]? = some tb) (hk : ks[p]? = some k) (T : Two nn dead τ.xs bl fl) (hE : τ.r.ended.length < 1000000) (S : So nn dead τ.xs bl fl rl τ.r.own k) (hc : cost9 bl rl k ≤ N) (hm : N ≤ most) :
    Calls Try.prog 18 #[.pointer (some ⟨tb, 0, none⟩), .int .i64 (most : Int)] wr fun e w1 => e = .returned (.bool true) ∧ ∃ τ' bl' fl', Hid (Grp (S9 a b nn eb) B m n (mk a b nn eb (ks.set p .done) τ') ts gh C Z own w0 w1) ∧ Two nn dead τ'.xs bl' fl' ∧ (bl', fl', τ'.r.own) = fin9 dead bl fl rl τ.r.own k ∧ τ'.r.ended = τ.r.ended ∧ τ'.r.own.length = τ.r.own.length ∧ Same own wr w1 := by
  obtain ⟨t, τ', bl', fl', htN, D⟩ := solo_run (a := a) (b := b) (eb := eb) p N ks τ k bl fl rl hc hk T hE S
  obtain ⟨h1, h2⟩ := D.way.fin
  have hp := (List.getElem?_eq_some_iff.1 hk).1
  have ho : (mk a b nn eb (ks.set p .done) τ').over p = true := over_done (List.getElem?_set_self hp)
  have h3 : ∀ d, (mk a b nn eb ks τ).fin p (t + d) = mk a b nn eb (ks.set p .done) τ' := fun d => by rw [Mach.fin_over (by rw [h1]; exact ho) d, h1]
  have h5 := h3 (most - t)
  rw [show t + (most - t) = most by omega] at h5
  refine (Grp.finish_c h ht (most : Int) (fun j _ hj => ?_) (fun j _ => ?_)).mono ?_
  · by_cases hjt : j < t
    · omega
    · have h5 := h3 (j - t)
      rw [show t + (j - t) = j by omega] at h5
      rw [h5, ho] at hj
      simp at hj
  · by_cases hjt : j < t
    · exact (h2 j hjt).2
    · have h5 := h3 (j - t)
      rw [show t + (j - t) = j by omega] at h5
      rw [h5]
      exact can_over ho
  · rintro e w1 ⟨rfl, hg, hs⟩
    rw [show ((most : Int)).toNat = most by omega, h5] at hg ⊢
    exact ⟨by rw [ho], τ', bl', fl', hg, D.two, D.fin, D.ended, D.len, hs⟩
end Go.Proofs.Ytndpkonihcebeaa.Kod.Nine
