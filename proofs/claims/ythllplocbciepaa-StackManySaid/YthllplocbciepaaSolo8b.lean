/- Layer 8's laws: a task alone comes to its end. -/
import Derived.Test.YthllplocbciepaaSolo8
namespace Go.Proofs.Ythllplocbciepaa.Kod.Eight
open Go.RowKit Go.Proofs.Ythllplocbciepaa Go.Proofs.Ythllplocbciepaa.Cell Go.Proofs.Ythllplocbciepaa.Wd
set_option linter.unusedVariables false
set_option linter.unusedSimpArgs false
variable {a b : Nat} {gb : Nat → Nat}

theorem popped_eq {j : Nat} {l : List Bool} {i : Int} {ok : Bool} {σ : St (List W8)} {x : W8} (hx : σ.r[j]? = some x) (hr : room x) : popped j l i ok σ = enter j l (setw σ j (told x i ok)) := by
  unfold popped
  rw [hx]
  simp only [if_pos hr]
theorem pushed_eq {j : Nat} {l : List Bool} {σ : St (List W8)} {x : W8} (hx : σ.r[j]? = some x) (hr : x.hands ≠ []) : pushed j l σ = enter j l (setw σ j { x with hands := x.hands.dropLast }) := by
  unfold pushed
  rw [hx]
  simp only [if_neg hr]
theorem set_at {ks : List K8} {p : Nat} {k : K8} (h : p < ks.length) : (ks.set p k)[p]? = some k := by rw [List.getElem?_set_self h]
theorem popL_nil {j : Nat} {l : List Bool} {τ : St (List W8)} (h : Stk τ.xs []) : next8 (.popL j l) τ = popped j l (-1) false { τ with c := τ.c + 1 } := by
  have h1 := h.pos
  show (if ix (τ.ld 0).1 < 0 then _ else _) = _
  rw [ld_at τ (by omega) (by omega)]
  have h2 : ix (τ.xs.getD 0 0) = -1 := h.chain
  simp only [Int.toNat_zero, h2]
  rfl
theorem popL_cons {j : Nat} {l : List Bool} {τ : St (List W8)} {i : Int} {t : List Int} (h : Stk τ.xs (i :: t)) : next8 (.popL j l) τ = some (.popN j l (τ.xs.getD 0 0), { τ with c := τ.c + 1 }) := by
  have h1 := h.pos
  show (if ix (τ.ld 0).1 < 0 then _ else _) = _
  rw [ld_at τ (by omega) (by omega)]
  have h2 : ix (τ.xs.getD 0 0) = i := h.pop.1
  have h3 := (h.mem i List.mem_cons_self).1
  simp only [Int.toNat_zero, h2]
  rw [if_neg (by omega)]
theorem popN_at {j : Nat} {l : List Bool} {τ : St (List W8)} {i h0 : Int} {t : List Int} (h : Stk τ.xs (i :: t)) (hh : h0 = τ.xs.getD 0 0) : next8 (.popN j l h0) τ = some (.popC j l h0 (τ.xs.getD (i + 1).toNat 0), { τ with c := τ.c + 1 }) := by
  subst hh
  have h2 : ix (τ.xs.getD 0 0) = i := h.pop.1
  obtain ⟨h3, h4⟩ := h.mem i List.mem_cons_self
  show some (K8.popC j l _ (τ.ld (lk1 (ix (τ.xs.getD 0 0)))).1, (τ.ld (lk1 (ix (τ.xs.getD 0 0)))).2) = _
  rw [h2, show lk1 i = i + 1 by unfold lk1; omega, ld_at τ (by omega) (by omega)]
theorem popC_at {j : Nat} {l : List Bool} {τ : St (List W8)} {i h0 x0 : Int} {t : List Int} (h : Stk τ.xs (i :: t)) (hh : h0 = τ.xs.getD 0 0) (hx : x0 = τ.xs.getD (i + 1).toNat 0) : next8 (.popC j l h0 x0) τ = popped j l i true { τ with c := τ.c + 1, xs := τ.xs.set 0 (turnTo (τ.xs.getD 0 0) (nx (τ.xs.getD (i + 1).toNat 0))) } := by
  subst hh
  subst hx
  have h1 := h.pos
  have h2 : ix (τ.xs.getD 0 0) = i := h.pop.1
  show (if (τ.cas 0 _ _).1 then _ else _) = _
  rw [cas_at τ (i := 0) (old := τ.xs.getD 0 0) (by omega) (by omega) rfl, h2]
  rfl
theorem pshL_at {j : Nat} {l : List Bool} {τ : St (List W8)} {i : Int} (h : 0 < τ.xs.length) : next8 (.pshL j l i) τ = some (.pshS j l i (τ.xs.getD 0 0), { τ with c := τ.c + 1 }) := by
  show some (K8.pshS j l i (τ.ld 0).1, (τ.ld 0).2) = _
  rw [ld_at τ (by omega) (by omega)]
  rfl
theorem pshS_at {j : Nat} {l : List Bool} {τ : St (List W8)} {i h0 : Int} (h1 : 0 ≤ i) (h2 : i + 1 < τ.xs.length) : next8 (.pshS j l i h0) τ = some (.pshC j l i h0, { τ with c := τ.c + 1, xs := τ.xs.set (i + 1).toNat (ix h0 + 1) }) := by
  show some (K8.pshC j l i h0, τ.sto (lk1 i) (ix h0 + 1)) = _
  rw [show lk1 i = i + 1 by unfold lk1; omega, sto_at τ (by omega) (by omega)]
theorem pshC_at {j : Nat} {l : List Bool} {τ : St (List W8)} {i h0 : Int} (h : 0 < τ.xs.length) (hh : τ.xs.getD 0 0 = h0) : next8 (.pshC j l i h0) τ = pushed j l { τ with c := τ.c + 1, xs := τ.xs.set 0 (turnTo h0 i) } := by
  show (if (τ.cas 0 _ _).1 then _ else _) = _
  rw [cas_at τ (i := 0) (old := h0) (by omega) (by omega) hh]
  rfl
/-- Tasks, and what all share. -/
abbrev mk (a b : Nat) (gb : Nat → Nat) (ks : List K8) (τ : St (List W8)) : Mach (S8 a b gb) := ⟨ks, τ⟩
/-- What a task that is alone comes to. -/
structure Came (a b : Nat) (gb : Nat → Nat) (p j : Nat) (l : List Bool) (n : Nat) (ks : List K8) (τ0 : St (List W8)) (σ : St (List W8)) (s : List Int) (x : W8) (t : Nat) (τ' : St (List W8)) : Prop where
  few : t ≤ 3 * l.length
  way : Way p t (mk a b gb ks τ0) (mk a b gb (ks.set p .done) τ')
  fit : Fit τ'.xs (l.foldl act8 (s, x)).1 (l.foldl act8 (s, x)).2 n
  r : τ'.r = σ.r.set j (l.foldl act8 (s, x)).2
  len : τ'.xs.length = σ.xs.length
theorem set_self {α : Type} {l : List α} {p : Nat} {k : α} (h : l[p]? = some k) : l.set p k = l := by
  apply List.ext_getElem?
  intro q
  by_cases hq : p = q
  · subst hq
    rw [List.getElem?_set_self (List.getElem?_eq_some_iff.1 h).1, h]
  · rw [List.getElem?_set_ne hq]
/-- A step more is counted. -/
def bump (σ : St (List W8)) (p : Nat) : St (List W8) := { σ with steps := σ.steps.set p (σ.steps.getD p 0 + 1) }
theorem one_way {p : Nat} {ks : List K8} {τ0 : St (List W8)} {k k' : K8} {τ σ' : St (List W8)} (hk : ks[p]? = some k) (hn : (S8 a b gb).nil k = false) (hτ : τ = bump τ0 p) (hs : next8 k τ = some (k', σ')) : Way p 1 (mk a b gb ks τ0) (mk a b gb (ks.set p k') σ') := by
  subst hτ
  exact Way.one (M := mk a b gb ks τ0) hk hn hs
theorem solo (p j n : Nat) : ∀ (l : List Bool) (ks : List K8) (σ : St (List W8)) (s : List Int) (x : W8) (k : K8) (τ0 : St (List W8)), enter j l σ = some (k, τ0) → ks[p]? = some k → Fit σ.xs s x (n + l.length) → σ.r[j]? = some x → ∃ t τ', Came a b gb p j l n ks τ0 σ s x t τ'
  | [], ks, σ, s, x, k, τ0, he, hk, hf, hx => by
    have he' := Option.some.inj he
    simp only [Prod.mk.injEq] at he'
    obtain ⟨rfl, rfl⟩ := he'
    refine ⟨0, σ, Nat.le_refl _, ?_, hf, (set_self hx).symm, rfl⟩
    rw [set_self hk]
    exact .stop _
  | true :: l, ks, σ, s, x, k, τ0, he, hk, hf, hx => by
    obtain ⟨x', hx', he'⟩ := enter_pop he
    rw [hx] at hx'
    obtain rfl := Option.some.inj hx'
    simp only [Prod.mk.injEq] at he'
    obtain ⟨rfl, h2⟩ := he'
    have hp : p < ks.length := (List.getElem?_eq_some_iff.1 hk).1
    have hj : j < σ.r.length := (List.getElem?_eq_some_iff.1 hx).1
    obtain ⟨τ, hτ⟩ : ∃ τ, τ = bump τ0 p := ⟨_, rfl⟩
    have tx : τ.xs = σ.xs := by rw [hτ, h2]; rfl
    have tr : τ.r = σ.r.set j { x with busy := true, bare := false } := by rw [hτ, h2]; rfl
    have hrm := hf.room
    cases s with
    | nil =>
      have hs : Stk τ.xs [] := by rw [tx]; exact hf.stk
      have hn := popL_nil (j := j) (l := l) hs
      obtain ⟨τ1, hτ1⟩ : ∃ τ1 : St (List W8), τ1 = { τ with c := τ.c + 1 } := ⟨_, rfl⟩
      rw [← hτ1] at hn
      have t1x : τ1.xs = σ.xs := by rw [hτ1]; exact tx
      have t1r : τ1.r = σ.r.set j { x with busy := true, bare := false } := by rw [hτ1]; exact tr
      have hj1 : j < τ1.r.length := by rw [t1r, List.length_set]; exact hj
      rw [popped_eq (x := { x with busy := true, bare := false }) (by rw [t1r, List.getElem?_set_self hj]) hrm] at hn
      obtain ⟨⟨k2, σ2⟩, hy⟩ := enter_some (j := j) l (setw_at (σ := τ1) hj1 (told { x with busy := true, bare := false } (-1) false))
      have hw := one_way (a := a) (b := b) (gb := gb) hk rfl hτ (hn.trans hy)
      obtain ⟨t, τ', hc⟩ := solo p j n l (ks.set p k2) _ [] (told { x with busy := true, bare := false } (-1) false) k2 σ2 hy (set_at hp) (by
        show Fit τ1.xs _ _ _
        rw [t1x]
        exact hf.popNil) (setw_at hj1 _)
      refine ⟨1 + t, τ', by have := hc.few; simp only [List.length_cons]; omega, ?_, hc.fit, ?_, ?_⟩
      · have := hw.trans hc.way
        rw [List.set_set] at this
        exact this
      · rw [hc.r]
        show (τ1.r.set j _).set j _ = _
        rw [t1r]
        simp [List.set_set, act8]
      · rw [hc.len]
        show τ1.xs.length = _
        rw [t1x]
    | cons i s =>
      have hs : Stk τ.xs (i :: s) := by rw [tx]; exact hf.stk
      have hw1 := one_way (a := a) (b := b) (gb := gb) hk rfl hτ (popL_cons (j := j) (l := l) hs)
      obtain ⟨τ1, hτ1⟩ : ∃ τ1 : St (List W8), τ1 = bump { τ with c := τ.c + 1 } p := ⟨_, rfl⟩
      have t1x : τ1.xs = σ.xs := by rw [hτ1]; exact tx
      have t1r : τ1.r = σ.r.set j { x with busy := true, bare := false } := by rw [hτ1]; exact tr
      have hs1 : Stk τ1.xs (i :: s) := by rw [t1x]; exact hf.stk
      have hw2 := one_way (a := a) (b := b) (gb := gb) (ks := ks.set p (.popN j l (τ.xs.getD 0 0))) (τ0 := { τ with c := τ.c + 1 }) (set_at hp) rfl hτ1 (popN_at (j := j) (l := l) (h0 := τ.xs.getD 0 0) hs1 (by rw [tx, t1x]))
      obtain ⟨τ2, hτ2⟩ : ∃ τ2 : St (List W8), τ2 = bump { τ1 with c := τ1.c + 1 } p := ⟨_, rfl⟩
      have t2x : τ2.xs = σ.xs := by rw [hτ2]; exact t1x
      have t2r : τ2.r = σ.r.set j { x with busy := true, bare := false } := by rw [hτ2]; exact t1r
      have hs2 : Stk τ2.xs (i :: s) := by rw [t2x]; exact hf.stk
      have hn := popC_at (j := j) (l := l) (h0 := τ.xs.getD 0 0) (x0 := τ1.xs.getD (i + 1).toNat 0) hs2 (by rw [tx, t2x]) (by rw [t1x, t2x])
      obtain ⟨τ3, hτ3⟩ : ∃ τ3 : St (List W8), τ3 = { τ2 with c := τ2.c + 1, xs := τ2.xs.set 0 (turnTo (τ2.xs.getD 0 0) (nx (τ2.xs.getD (i + 1).toNat 0))) } := ⟨_, rfl⟩
      rw [← hτ3] at hn
      have t3x : τ3.xs = σ.xs.set 0 (turnTo (σ.xs.getD 0 0) (nx (σ.xs.getD (i + 1).toNat 0))) := by
        rw [hτ3, ← t2x]
      have t3r : τ3.r = σ.r.set j { x with busy := true, bare := false } := by rw [hτ3]; exact t2r
      have hj1 : j < τ3.r.length := by rw [t3r, List.length_set]; exact hj
      rw [popped_eq (x := { x with busy := true, bare := false }) (by rw [t3r, List.getElem?_set_self hj]) hrm] at hn
      obtain ⟨⟨k2, σ2⟩, hy⟩ := enter_some (j := j) l (setw_at (σ := τ3) hj1 (told { x with busy := true, bare := false } i true))
      have hp2 : p < (ks.set p (.popN j l (τ.xs.getD 0 0))).length := by rw [List.length_set]; exact hp
      have hw3 := one_way (a := a) (b := b) (gb := gb) (ks := (ks.set p (.popN j l (τ.xs.getD 0 0))).set p (.popC j l (τ.xs.getD 0 0) (τ1.xs.getD (i + 1).toNat 0))) (τ0 := { τ1 with c := τ1.c + 1 }) (set_at hp2) rfl hτ2 (hn.trans hy)
      obtain ⟨t, τ', hc⟩ := solo p j n l (ks.set p k2) _ s (told { x with busy := true, bare := false } i true) k2 σ2 hy (set_at hp) (by
        show Fit τ3.xs _ _ _
        rw [t3x]
        exact hf.popCons hf.stk.pop.2) (setw_at hj1 _)
      refine ⟨1 + (1 + (1 + t)), τ', by have := hc.few; simp only [List.length_cons]; omega, ?_, hc.fit, ?_, ?_⟩
      · have h4 := hc.way
        simp only [List.set_set] at h4 hw1 hw2 hw3
        exact hw1.trans (hw2.trans (hw3.trans h4))
      · rw [hc.r]
        show (τ3.r.set j _).set j _ = _
        rw [t3r]
        simp [List.set_set, act8]
      · rw [hc.len]
        show τ3.xs.length = _
        rw [t3x, List.length_set]
  | false :: l, ks, σ, s, x, k, τ0, he, hk, hf, hx => by
    obtain ⟨x', hx', hcase⟩ := enter_push he
    rw [hx] at hx'
    obtain rfl := Option.some.inj hx'
    have hp : p < ks.length := (List.getElem?_eq_some_iff.1 hk).1
    have hj : j < σ.r.length := (List.getElem?_eq_some_iff.1 hx).1
    rcases hcase with ⟨h0, he'⟩ | ⟨i, hlast, he'⟩
    · obtain ⟨t, τ', hc⟩ := solo p j n l ks σ s x k τ0 he' hk (hf.less (by simp)) hx
      have e : act8 (s, x) false = (s, x) := by simp [act8, h0]
      refine ⟨t, τ', by have := hc.few; simp only [List.length_cons]; omega, hc.way, ?_, ?_, hc.len⟩
      · rw [List.foldl_cons, e]; exact hc.fit
      · rw [List.foldl_cons, e]; exact hc.r
    · simp only [Prod.mk.injEq] at he'
      obtain ⟨rfl, rfl⟩ := he'
      have hin : i ∈ x.hands := by rw [last_split hlast]; simp
      obtain ⟨hi0, hi1⟩ := hf.rng i hin
      have hpos := hf.stk.pos
      obtain ⟨τ, hτ⟩ : ∃ τ, τ = bump τ0 p := ⟨_, rfl⟩
      have tx : τ.xs = τ0.xs := by rw [hτ]; rfl
      have tr : τ.r = τ0.r := by rw [hτ]; rfl
      have hw1 := one_way (a := a) (b := b) (gb := gb) hk rfl hτ (pshL_at (j := j) (l := l) (τ := τ) (i := i) (by rw [tx]; exact hpos))
      obtain ⟨τ1, hτ1⟩ : ∃ τ1 : St (List W8), τ1 = bump { τ with c := τ.c + 1 } p := ⟨_, rfl⟩
      have t1x : τ1.xs = τ0.xs := by rw [hτ1]; exact tx
      have t1r : τ1.r = τ0.r := by rw [hτ1]; exact tr
      have hw2 := one_way (a := a) (b := b) (gb := gb) (ks := ks.set p (.pshS j l i (τ.xs.getD 0 0))) (τ0 := { τ with c := τ.c + 1 }) (set_at hp) rfl hτ1 (pshS_at (j := j) (l := l) (h0 := τ.xs.getD 0 0) hi0 (by rw [t1x]; exact hi1))
      obtain ⟨τ2, hτ2⟩ : ∃ τ2 : St (List W8), τ2 = bump { τ1 with c := τ1.c + 1, xs := τ1.xs.set (i + 1).toNat (ix (τ.xs.getD 0 0) + 1) } p := ⟨_, rfl⟩
      have t2x : τ2.xs = τ0.xs.set (i + 1).toNat (ix (τ0.xs.getD 0 0) + 1) := by rw [hτ2, tx]; show τ1.xs.set _ _ = _; rw [t1x]
      have t2r : τ2.r = τ0.r := by rw [hτ2]; exact t1r
      have hn := pshC_at (j := j) (l := l) (τ := τ2) (i := i) (h0 := τ.xs.getD 0 0) (by rw [t2x, List.length_set]; exact hpos) (by rw [t2x, tx, getD_set _ _ _ _ (by omega)])
      obtain ⟨τ3, hτ3⟩ : ∃ τ3 : St (List W8), τ3 = { τ2 with c := τ2.c + 1, xs := τ2.xs.set 0 (turnTo (τ.xs.getD 0 0) i) } := ⟨_, rfl⟩
      rw [← hτ3] at hn
      have t3x : τ3.xs = (τ0.xs.set (i + 1).toNat (ix (τ0.xs.getD 0 0) + 1)).set 0 (turnTo (τ0.xs.getD 0 0) i) := by rw [hτ3, tx, ← t2x]
      have t3r : τ3.r = τ0.r := by rw [hτ3]; exact t2r
      have hj1 : j < τ3.r.length := by rw [t3r]; exact hj
      have hne : x.hands ≠ [] := fun e => by rw [e] at hin; simp at hin
      rw [pushed_eq (x := x) (by rw [t3r]; exact hx) hne] at hn
      obtain ⟨⟨k2, σ2⟩, hy⟩ := enter_some (j := j) l (setw_at (σ := τ3) hj1 { x with hands := x.hands.dropLast })
      have hp2 : p < (ks.set p (.pshS j l i (τ.xs.getD 0 0))).length := by rw [List.length_set]; exact hp
      have hw3 := one_way (a := a) (b := b) (gb := gb) (ks := (ks.set p (.pshS j l i (τ.xs.getD 0 0))).set p (.pshC j l i (τ.xs.getD 0 0))) (τ0 := { τ1 with c := τ1.c + 1, xs := τ1.xs.set (i + 1).toNat (ix (τ.xs.getD 0 0) + 1) }) (set_at hp2) rfl hτ2 (hn.trans hy)
      obtain ⟨t, τ', hc⟩ := solo p j n l (ks.set p k2) _ (i :: s) { x with hands := x.hands.dropLast } k2 σ2 hy (set_at hp) (by
        show Fit τ3.xs _ _ _
        rw [t3x]
        exact (hf.push hlast).less (by simp)) (setw_at hj1 _)
      have e : act8 (s, x) false = (i :: s, { x with hands := x.hands.dropLast }) := by simp [act8, hlast]
      refine ⟨1 + (1 + (1 + t)), τ', by have := hc.few; simp only [List.length_cons]; omega, ?_, ?_, ?_, ?_⟩
      · have h4 := hc.way
        simp only [List.set_set] at h4 hw1 hw2 hw3
        exact hw1.trans (hw2.trans (hw3.trans h4))
      · rw [List.foldl_cons, e]; exact hc.fit
      · rw [List.foldl_cons, e, hc.r]
        show (τ3.r.set j _).set j _ = _
        rw [t3r]
        simp [List.set_set]
      · rw [hc.len]
        show τ3.xs.length = _
        rw [t3x, List.length_set, List.length_set]
end Go.Proofs.Ythllplocbciepaa.Kod.Eight
