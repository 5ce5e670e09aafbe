/- Layer 9's laws: a round of one code; a new owner. -/
import Derived.Test.YtndpkonihcebeaaSolo9b
namespace Go.Proofs.Ytndpkonihcebeaa.Kod.Nine
open Go.RowKit Go.Proofs.Ytndpkonihcebeaa Go.Proofs.Ytndpkonihcebeaa.Cell Go.Proofs.Ytndpkonihcebeaa.Wd
set_option linter.unusedVariables false
set_option linter.unusedSimpArgs false
variable {a b : Nat} {eb : Option Nat} {nn : Nat} {dead : Int → Bool}
variable {B m n N : Nat} {ks : List K9} {τ : St R9} {ts gh : List Nat} {C : List (K9 × Value)} {Z : List (Option Addr × List Value)} {own : Nat → Prop} {w0 wr w' : World} {bl fl : List Int}

/-- New, and Finish. -/
theorem Grp.round9 {k : K9} {v : Value} {most : Nat} (h : Grp (S9 a b nn eb) B (m + N) (n + 2 * N) (mk a b nn eb ks τ) ts gh C Z own w0 wr) (hv : (k, v) ∈ C) (T : Two nn dead τ.xs bl fl) (hE : τ.r.ended.length < 1000000) (S : So nn dead τ.xs bl fl [] τ.r.own k) (hc : cost9 bl [] k ≤ N) (hm : N ≤ most) :
    Calls Try.prog 14 #[v] wr fun e w1 => ∃ tb, e = .returned (.pointer (some ⟨tb, 0, none⟩)) ∧ Hid (Calls Try.prog 18 #[.pointer (some ⟨tb, 0, none⟩), .int .i64 (most : Int)] w1 fun e w2 => e = .returned (.bool true) ∧ ∃ τ' bl' fl', Hid (Grp (S9 a b nn eb) B m n (mk a b nn eb (ks ++ [.done]) τ') (ts ++ [tb]) gh C Z own w0 w2) ∧ Two nn dead τ'.xs bl' fl' ∧ (bl', fl', τ'.r.own) = fin9 dead bl fl [] τ.r.own k ∧ τ'.r.ended = τ.r.ended) := by
  refine (Grp.new_c h hv).mono ?_
  rintro e w1 ⟨rfl, hm1, hlt, hg⟩
  have hl := h.lens
  have hts : ts.length = ks.length := hl.1
  refine ⟨_, rfl, ?_⟩
  refine (Grp.alone9 (p := ks.length) (k := k) (tb := wr.heap.size) (ks := ks ++ [k]) (τ := { τ with steps := τ.steps ++ [0] }) (bl := bl) (fl := fl) (rl := []) hg.out (by rw [← hts]; simp) (by simp) T hE S hc hm).mono ?_
  rintro e w2 ⟨rfl, τ', bl', fl', g1, g2, g3, g4, g5, g6⟩
  refine ⟨rfl, τ', bl', fl', ?_, g2, g3, g4⟩
  have e : (ks ++ [k]).set ks.length K9.done = ks ++ [.done] := by simp
  rw [e] at g1
  exact g1
theorem V9_own {r : R9} {gh : List Nat} {g : Nat} (hl : gh.length = r.own.length) (j : Vr) {x : Nat × Nat × List Int} (h : V9 eb { r with own := r.own ++ [([], [])] } (gh ++ [g]) j = some x) :
    V9 eb r gh j = some x ∨ (j = .got gh.length ∧ x = (g, 0, [])) ∨ (j = .ends gh.length ∧ x = (g, 1, [])) := by
  cases j with
  | ended => exact Or.inl h
  | got o =>
    by_cases ho : o < gh.length
    · left
      simp only [V9] at h ⊢
      rwa [List.getElem?_append_left ho, List.getElem?_append_left (by omega)] at h
    · by_cases he : o = gh.length
      · subst he
        right; left
        simp [V9, hl] at h
        exact ⟨rfl, h.symm⟩
      · simp only [V9] at h
        rw [List.getElem?_eq_none (by simp; omega)] at h
        simp at h
  | ends o =>
    by_cases ho : o < gh.length
    · left
      simp only [V9] at h ⊢
      rwa [List.getElem?_append_left ho, List.getElem?_append_left (by omega)] at h
    · by_cases he : o = gh.length
      · subst he
        right; right
        simp [V9, hl] at h
        exact ⟨rfl, h.symm⟩
      · simp only [V9] at h
        rw [List.getElem?_eq_none (by simp; omega)] at h
        simp at h
/-- An owner more. -/
theorem Grp.owner9 {ob : Nat} (h : Grp (S9 a b nn eb) B m n (mk a b nn eb ks τ) ts gh C Z own w0 wr) (hm : Made wr w') (hob : wr.heap.size ≤ ob) (hb : w'.heap[ob]? = some (.cells #[.slice none 0 0, .slice none 0 0] 36 (0, 0))) :
    Grp (S9 a b nn eb) B m n (mk a b nn eb ks { τ with r := { τ.r with own := τ.r.own ++ [([], [])] } }) ts (gh ++ [ob]) C Z own w0 w' ∧ gh.length = τ.r.own.length := by
  have hlow := h.low
  have hbel := h.bel
  obtain ⟨rs, L, hr, hts, rfl, hold, hC, hZ, hscr⟩ := h.ex
  have hi := hr.inv
  have hi' := hi.later hm
  have hwl := lt_of_at hb
  obtain ⟨hgl, sv, W⟩ : J9 eb τ.r L.own L.gh wr := hi.rest
  refine ⟨?_, hgl⟩
  have W' : Vars L.own w' (V9 eb τ.r L.gh) sv := W.later (fun k hk => hm.block k (hi.owna k hk).2.2)
  obtain ⟨L', hL'⟩ : ∃ L' : Lay, L' = { L with own := fun q => L.own q ∨ q = ob, gh := L.gh ++ [ob] } := ⟨_, rfl⟩
  have e : Ext (S9 a b nn eb) wr L w' L' := by
    rw [hL']
    refine ⟨hm.os, hm.tape, hm.output, hm.size, fun k hk hn => ⟨fun e => ?_, hm.block k hk⟩, ⟨List.prefix_append _ _, List.prefix_refl _⟩⟩
    rcases e with e | e | e | e | e
    · exact hn (Or.inl e)
    · exact hn (Or.inr (Or.inl e))
    · exact hn (Or.inr (Or.inr (Or.inl e)))
    · rcases e with e | e
      · exact hn (Or.inr (Or.inr (Or.inr (Or.inl e))))
      · omega
    · exact hn (Or.inr (Or.inr (Or.inr (Or.inr e))))
  have hold9 : ∀ j x, V9 eb τ.r L.gh j = some x → j ≠ .got L.gh.length ∧ j ≠ .ends L.gh.length ∧ x.1 ≠ ob := fun j ⟨g, o, xs⟩ hx => by
    refine ⟨fun e => ?_, fun e => ?_, fun e => ?_⟩
    · subst e; simp [V9] at hx
    · subst e; simp [V9] at hx
    · have h1 := (hi.owna _ (W.mine j g o xs hx)).2.2
      have e' : g = ob := e
      omega
  obtain ⟨s2, hs2⟩ : ∃ s2 : Vr → Value, s2 = fun j => if j = .got L.gh.length ∨ j = .ends L.gh.length then .slice none 0 0 else sv j := ⟨_, rfl⟩
  have hsv : ∀ j x, V9 eb τ.r L.gh j = some x → s2 j = sv j := fun j x hx => by
    obtain ⟨h1, h2, _⟩ := hold9 j x hx
    rw [hs2]
    simp [h1, h2]
  have hsn : s2 (.got L.gh.length) = .slice none 0 0 ∧ s2 (.ends L.gh.length) = .slice none 0 0 := by rw [hs2]; simp
  have hnone : (Value.slice none 0 0).ownBlock = none := rfl
  have JJ : J9 eb { τ.r with own := τ.r.own ++ [([], [])] } L'.own L'.gh w' := by
    rw [hL']
    refine ⟨by simp [hgl], s2, ⟨fun j g o xs hx => ?_, fun j g o xs hx => ?_, fun j g o xs hx => ?_, fun j g o xs k hx hk => ?_, fun i j x y k hij hx hy hk => ?_, fun i j g o xs o' ys hij hx hy => ?_⟩⟩
    · rcases V9_own hgl j hx with h1 | ⟨_, h1⟩ | ⟨_, h1⟩
      · exact Or.inl (W.mine j g o xs h1)
      · simp only [Prod.mk.injEq] at h1; exact Or.inr h1.1
      · simp only [Prod.mk.injEq] at h1; exact Or.inr h1.1
    · rcases V9_own hgl j hx with h1 | ⟨rfl, h1⟩ | ⟨rfl, h1⟩
      · rw [hsv j _ h1]; exact W'.blk j g o xs h1
      · simp only [Prod.mk.injEq] at h1
        obtain ⟨rfl, rfl, rfl⟩ := h1
        exact ⟨_, _, hb, by decide, by rw [hsn.1]; rfl⟩
      · simp only [Prod.mk.injEq] at h1
        obtain ⟨rfl, rfl, rfl⟩ := h1
        exact ⟨_, _, hb, by decide, by rw [hsn.2]; rfl⟩
    · rcases V9_own hgl j hx with h1 | ⟨rfl, h1⟩ | ⟨rfl, h1⟩
      · rw [hsv j _ h1]; exact W'.row j g o xs h1
      · simp only [Prod.mk.injEq] at h1
        obtain ⟨rfl, rfl, rfl⟩ := h1
        rw [hsn.1]
        exact World.ownsRow_nil _ _ _ _
      · simp only [Prod.mk.injEq] at h1
        obtain ⟨rfl, rfl, rfl⟩ := h1
        rw [hsn.2]
        exact World.ownsRow_nil _ _ _ _
    · rcases V9_own hgl j hx with h1 | ⟨rfl, h1⟩ | ⟨rfl, h1⟩
      · rw [hsv j _ h1] at hk; exact Or.inl (W.rown j g o xs k h1 hk)
      · rw [hsn.1, hnone] at hk; simp at hk
      · rw [hsn.2, hnone] at hk; simp at hk
    · rcases V9_own hgl i hx with h1 | ⟨rfl, h1⟩ | ⟨rfl, h1⟩
      · rcases V9_own hgl j hy with h2 | ⟨rfl, h2⟩ | ⟨rfl, h2⟩
        · rw [hsv i _ h1] at hk
          rw [hsv j _ h2]
          exact W.apart i j x y k hij h1 h2 hk
        · rw [hsn.1, hnone]; simp
        · rw [hsn.2, hnone]; simp
      · rw [hsn.1, hnone] at hk; simp at hk
      · rw [hsn.2, hnone] at hk; simp at hk
    · rcases V9_own hgl i hx with h1 | ⟨rfl, h1⟩ | ⟨rfl, h1⟩
      · rcases V9_own hgl j hy with h2 | ⟨rfl, h2⟩ | ⟨rfl, h2⟩
        · exact W.spot i j g o xs o' ys hij h1 h2
        · simp only [Prod.mk.injEq] at h2
          exact absurd h2.1 (hold9 i _ h1).2.2
        · simp only [Prod.mk.injEq] at h2
          exact absurd h2.1 (hold9 i _ h1).2.2
      · rcases V9_own hgl j hy with h2 | ⟨rfl, h2⟩ | ⟨rfl, h2⟩
        · simp only [Prod.mk.injEq] at h1
          exact absurd h1.1 (hold9 j _ h2).2.2
        · exact absurd rfl hij
        · simp only [Prod.mk.injEq] at h1 h2
          omega
      · rcases V9_own hgl j hy with h2 | ⟨rfl, h2⟩ | ⟨rfl, h2⟩
        · simp only [Prod.mk.injEq] at h1
          exact absurd h1.1 (hold9 j _ h2).2.2
        · simp only [Prod.mk.injEq] at h1 h2
          omega
        · exact absurd rfl hij
  have inv : Inv (S9 a b nn eb) n { τ with r := { τ.r with own := τ.r.own ++ [([], [])] } } rs L' w' := by
    have ha := lt_of_at hi.ar.ha
    have hbb := lt_of_at hi.ar.hb
    have hJ := JJ
    rw [hL'] at hJ ⊢
    refine ⟨hi'.ar, hi'.fuel, hi'.wide, hi'.len, hi'.nts, hi'.nst, hi'.task, hi'.few, hi'.once, fun t ht => ⟨(hi.tsa t ht).1, (hi.tsa t ht).2.1, fun e => ?_⟩, fun k hk => ?_, hJ, fun k hk => ⟨(hi'.scra k hk).1, (hi'.scra k hk).2.1, (hi'.scra k hk).2.2.1, fun e => ?_, (hi'.scra k hk).2.2.2.2⟩⟩
    · have := hi.task_lt ht
      rcases e with e | e
      · exact (hi.tsa t ht).2.2 e
      · omega
    · rcases hk with hk | hk
      · exact hi'.owna k hk
      · subst hk
        exact ⟨by omega, by omega, hwl⟩
    · have := (hi.scra k hk).2.2.2.2
      rcases e with e | e
      · exact (hi'.scra k hk).2.2.2.1 e
      · omega
  refine ⟨⟨rs, L', ⟨inv, hr.len, fun i k v h1 h2 => (hr.rep i k v h1 h2).later e⟩, by rw [hL']; exact hts, by rw [hL'], hold.later e, fun c hc => (hC c hc).later e, fun z hz => (hZ z hz).later e, fun q => by rw [hL']; exact hscr q⟩, hbel.trans (hold.below e), hlow⟩
end Go.Proofs.Ytndpkonihcebeaa.Kod.Nine
