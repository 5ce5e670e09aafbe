/- Package wheel, in plain words: lists of tickets in the cells; a ticket more. -/
import Derived.Test.YtndpkonihcebeaaPlc
namespace Go.Proofs.Ytndpkonihcebeaa.Whl
open Go.RowKit Go.Proofs.Ytndpkonihcebeaa Go.Proofs.Ytndpkonihcebeaa.Cell Go.Proofs.Ytndpkonihcebeaa.Seq Go.Proofs.Ytndpkonihcebeaa.Num Go.Proofs.Ytndpkonihcebeaa.SetN Go.Proofs.Ytndpkonihcebeaa.Dig Go.Proofs.Ytndpkonihcebeaa.Bits
set_option linter.unusedVariables false
set_option linter.unusedSimpArgs false
variable {L S N : Nat}

/-- There is such a list. -/
def Val (L S lv sl : Nat) : Prop := lv ≤ L ∧ sl < S ∧ (lv = L → sl = 0)
structure Wst (L S N : Nat) (xs : List Int) (chs : Nat → Nat → List Nat) : Prop where
  good : Good L S N xs
  wide : Wide xs
  hn : 1 + L * (1 + S) ≤ N
  s1 : 1 ≤ S
  s64 : S ≤ 64
  chn : ∀ lv sl, Val L S lv sl → ∃ h : Nat, xs.getD (at_ L S lv sl) 0 = (h : Int) ∧ Chn L S xs (chs lv sl) h
  mp : ∀ lv sl, lv < L → sl < S → ∃ set : Nat, xs.getD (1 + lv) 0 = (set : Int) ∧ (set.testBit sl = true ↔ chs lv sl ≠ [])
  nd : ∀ lv sl lv' sl' t, Val L S lv sl → Val L S lv' sl' → t ∈ chs lv sl → t ∈ chs lv' sl' → lv = lv' ∧ sl = sl'
  ndl : ∀ lv sl, Val L S lv sl → (chs lv sl).Nodup
  lt : ∀ lv sl t, Val L S lv sl → t ∈ chs lv sl → t < 20
theorem LS_eq : L * (1 + S) = L + L * S := by rw [Nat.mul_add, Nat.mul_one]
theorem at_range {lv sl : Nat} (h : Val L S lv sl) : at_ L S lv sl = 0 ∨ (1 + L ≤ at_ L S lv sl ∧ at_ L S lv sl < 1 + L + L * S) := by
  unfold at_
  by_cases hl : L ≤ lv
  · rw [if_pos hl]; exact Or.inl rfl
  · rw [if_neg hl]
    right
    have h1 : (lv + 1) * S ≤ L * S := Nat.mul_le_mul_right _ (by omega)
    rw [Nat.add_mul, Nat.one_mul] at h1
    have := h.2.1
    omega
theorem at_inj {lv sl lv' sl' : Nat} (h : Val L S lv sl) (h' : Val L S lv' sl') (e : at_ L S lv sl = at_ L S lv' sl') : lv = lv' ∧ sl = sl' := by
  unfold at_ at e
  obtain ⟨a1, a2, a3⟩ := h
  obtain ⟨b1, b2, b3⟩ := h'
  by_cases hl : L ≤ lv
  · by_cases hl' : L ≤ lv'
    · exact ⟨by omega, by rw [a3 (by omega), b3 (by omega)]⟩
    · rw [if_pos hl, if_neg hl'] at e; omega
  · by_cases hl' : L ≤ lv'
    · rw [if_neg hl, if_pos hl'] at e; omega
    · rw [if_neg hl, if_neg hl'] at e
      have e2 : lv * S + sl = lv' * S + sl' := by omega
      have h1 : lv = lv' := by
        have x1 : (lv * S + sl) / S = lv := by rw [Nat.mul_comm, Nat.mul_add_div (by omega), Nat.div_eq_of_lt a2]; omega
        have x2 : (lv' * S + sl') / S = lv' := by rw [Nat.mul_comm, Nat.mul_add_div (by omega), Nat.div_eq_of_lt b2]; omega
        rw [← x1, ← x2, e2]
      subst h1
      exact ⟨rfl, by omega⟩
theorem lk_ge (t : Nat) : 1 + L + L * S ≤ lk L S t := by unfold lk; rw [LS_eq]; omega
theorem lk_inj {t t' : Nat} (h : lk L S t = lk L S t') : t = t' := by unfold lk at h; omega
theorem Chn.move {xs ys : List Int} (hl : ys.length = xs.length) : ∀ {ch : List Nat} {h : Nat}, Chn L S xs ch h → (∀ t ∈ ch, ys.getD (lk L S t) 0 = xs.getD (lk L S t) 0) → Chn L S ys ch h
  | [], h, hc, _ => hc
  | t :: r, h, ⟨h1, h2, h3, h', h4, h5⟩, hs => ⟨h1, h2, by rw [hl]; exact h3, h', by rw [hs t List.mem_cons_self]; exact h4, Chn.move hl h5 fun t' ht' => hs t' (List.mem_cons_of_mem _ ht')⟩
theorem Chn.nil_iff {xs : List Int} {ch : List Nat} {h : Nat} (hc : Chn L S xs ch h) : h = 0 ↔ ch = [] := by
  cases ch with
  | nil => exact ⟨fun _ => rfl, fun _ => hc⟩
  | cons t r => exact ⟨fun e => by have := hc.1; omega, fun e => by cases e⟩
section
variable {xs : List Int} {t lv0 sl0 : Nat}
theorem insX_else {i : Nat} (h1 : i ≠ at_ L S lv0 sl0) (h2 : i ≠ lk L S t) (h3 : i ≠ 1 + lv0 ∨ L ≤ lv0) : (insX L S t lv0 sl0 xs).getD i 0 = xs.getD i 0 := by
  unfold insX
  split
  · rw [getD_set_ne' h1.symm, getD_set_ne' h2.symm]
  · rename_i hc
    rw [getD_set_ne' (by rcases h3 with h3 | h3; exact h3.symm; exact absurd (Or.inr h3) hc), getD_set_ne' h1.symm, getD_set_ne' h2.symm]
theorem insX_at (hv : Val L S lv0 sl0) (hlen : 1 + L + L * S ≤ xs.length) : (insX L S t lv0 sl0 xs).getD (at_ L S lv0 sl0) 0 = ((t + 1 : Nat) : Int) := by
  have ha := at_range hv
  unfold insX
  split
  · rw [getD_set_eq' (by rw [List.length_set]; omega)]
  · rename_i hc
    have hl : lv0 < L := by apply Nat.lt_of_not_le; intro c; exact hc (Or.inr c)
    rw [getD_set_ne' (by omega), getD_set_eq' (by rw [List.length_set]; omega)]
theorem insX_lk (hv : Val L S lv0 sl0) (hlen : lk L S t < xs.length) : (insX L S t lv0 sl0 xs).getD (lk L S t) 0 = xs.getD (at_ L S lv0 sl0) 0 := by
  have ha := at_range hv
  have hk := lk_ge (L := L) (S := S) t
  unfold insX
  split
  · rw [getD_set_ne' (by omega), getD_set_eq' hlen]
  · rename_i hc
    have hl : lv0 < L := by apply Nat.lt_of_not_le; intro c; exact hc (Or.inr c)
    have : L ≤ L * S := Nat.le_mul_of_pos_right _ (by have := hv.2.1; omega)
    rw [getD_set_ne' (by omega), getD_set_ne' (by omega), getD_set_eq' hlen]
theorem insX_map (hv : Val L S lv0 sl0) (hl : lv0 < L) {set : Nat} (hs : xs.getD (1 + lv0) 0 = (set : Int)) (hlen : 1 + lv0 < xs.length) : (insX L S t lv0 sl0 xs).getD (1 + lv0) 0 = if xs.getD (at_ L S lv0 sl0) 0 ≠ 0 then (set : Int) else (addI set sl0 : Nat) := by
  have ha := at_range hv
  have hk := lk_ge (L := L) (S := S) t
  have hLS : L ≤ L * S := Nat.le_mul_of_pos_right _ (by have := hv.2.1; omega)
  have hat : at_ L S lv0 sl0 ≠ 1 + lv0 := by omega
  have hlk : lk L S t ≠ 1 + lv0 := by omega
  have e : ((xs.set (lk L S t) (xs.getD (at_ L S lv0 sl0) 0)).set (at_ L S lv0 sl0) ((t + 1 : Nat) : Int)).getD (1 + lv0) 0 = (set : Int) := by
    rw [getD_set_ne' hat, getD_set_ne' hlk]; exact hs
  unfold insX
  by_cases h0 : xs.getD (at_ L S lv0 sl0) 0 ≠ 0
  · rw [if_pos (Or.inl h0), if_pos h0]; exact e
  · rw [if_neg (by rintro (h | h); exact h0 h; omega), if_neg h0, e, Int.toNat_natCast, getD_set_eq' (by rw [List.length_set, List.length_set]; exact hlen)]
/-- The lists with a ticket more. -/
def insCh (t lv0 sl0 : Nat) (chs : Nat → Nat → List Nat) (lv sl : Nat) : List Nat := if lv = lv0 ∧ sl = sl0 then t :: chs lv sl else chs lv sl
theorem addI_bit {s i : Nat} (hi : i < 64) (j : Nat) : (addI s (i : Int)).testBit j = (s.testBit j || decide (i = j)) := by
  unfold addI
  rw [if_pos (by omega), Int.toNat_natCast]
  exact bit_putIn s i j
end
theorem Wst.ins {xs : List Int} {chs : Nat → Nat → List Nat} (h : Wst L S N xs chs) {t lv0 sl0 : Nat} (hv : Val L S lv0 sl0) (ht : t < 20) (htN : 1 + L * (1 + S) + t < N) (hf : ∀ lv sl, Val L S lv sl → t ∉ chs lv sl) : Wst L S N (insX L S t lv0 sl0 xs) (insCh t lv0 sl0 chs) := by
  have hlen := h.good.len
  have hS1 := h.s1
  have hLS : L ≤ L * S := Nat.le_mul_of_pos_right _ (by omega)
  have hN := h.hn
  rw [LS_eq] at hN
  have hlk : lk L S t < xs.length := by unfold lk; omega
  obtain ⟨h0, hh0, hc0⟩ := h.chn lv0 sl0 hv
  have ha0 := at_range hv
  -- links of tickets that lie in lists do not turn
  have hlinks : ∀ lv sl, Val L S lv sl → ∀ t' ∈ chs lv sl, (insX L S t lv0 sl0 xs).getD (lk L S t') 0 = xs.getD (lk L S t') 0 := fun lv sl hvv t' ht' => by
    have hk := lk_ge (L := L) (S := S) t'
    refine insX_else (by omega) (fun e => hf lv sl hvv (by rw [← lk_inj e]; exact ht')) ?_
    by_cases hl : L ≤ lv0
    · exact Or.inr hl
    · exact Or.inl (by omega)
  refine ⟨⟨by rw [insX_len]; exact hlen, fun k hk => ?_, fun i hi => ?_⟩, insX_wide h.wide (by omega), h.hn, h.s1, h.s64, fun lv sl hvv => ?_, fun lv sl hl hs => ?_, fun lv sl lv' sl' t' g1 g2 m1 m2 => ?_, fun lv sl hvv => ?_, fun lv sl t' hvv m => ?_⟩
  · obtain ⟨set, hset, hx⟩ := h.good.maps k hk
    by_cases e : k = lv0
    · subst e
      rw [insX_map hv hk hx (by omega)]
      split
      · exact ⟨set, hset, rfl⟩
      · refine ⟨_, ?_, rfl⟩
        have hs0 := hv.2.1
        unfold addI
        rw [if_pos (by have := h.s64; omega), Int.toNat_natCast]
        unfold putIn
        exact Nat.or_lt_two_pow hset (Nat.pow_lt_pow_right (by decide) hs0)
    · refine ⟨set, hset, ?_⟩
      rw [insX_else (by omega) (by have := lk_ge (L := L) (S := S) t; omega) (Or.inl (by omega))]
      exact hx
  · by_cases e1 : i = at_ L S lv0 sl0
    · subst e1
      rw [insX_at hv (by omega)]
      exact ⟨t + 1, by omega, rfl⟩
    · by_cases e2 : i = lk L S t
      · subst e2
        rw [insX_lk hv hlk]
        exact h.good.heads _ (by omega)
      · rw [insX_else e1 e2 (by by_cases hl : L ≤ lv0; exact Or.inr hl; exact Or.inl (by omega))]
        exact h.good.heads i hi
  · by_cases e : lv = lv0 ∧ sl = sl0
    · obtain ⟨rfl, rfl⟩ := e
      refine ⟨t + 1, insX_at hv (by omega), ?_⟩
      unfold insCh
      rw [if_pos ⟨rfl, rfl⟩]
      exact ⟨rfl, by omega, by rw [insX_len]; exact hlk, h0, by rw [insX_lk hv hlk]; exact hh0, hc0.move insX_len (hlinks lv sl hvv)⟩
    · obtain ⟨h1, hh1, hc1⟩ := h.chn lv sl hvv
      have ha := at_range hvv
      have hk := lk_ge (L := L) (S := S) t
      refine ⟨h1, ?_, ?_⟩
      · rw [insX_else (fun e' => e (at_inj hvv hv e')) (by omega) (by by_cases hl : L ≤ lv0; exact Or.inr hl; exact Or.inl (by omega))]
        exact hh1
      · unfold insCh
        rw [if_neg e]
        exact hc1.move insX_len (hlinks lv sl hvv)
  · obtain ⟨set, hx, hb⟩ := h.mp lv sl hl hs
    by_cases e : lv = lv0
    · subst e
      rw [insX_map hv hl hx (by omega)]
      have hnil := hc0.nil_iff
      by_cases hz : xs.getD (at_ L S lv sl0) 0 ≠ 0
      · rw [if_pos hz]
        refine ⟨set, rfl, ?_⟩
        unfold insCh
        by_cases e2 : sl = sl0
        · subst e2
          rw [if_pos ⟨rfl, rfl⟩]
          refine ⟨fun _ => by simp, fun _ => hb.2 (fun c => hz ?_)⟩
          rw [hh0, hnil.2 c]; rfl
        · rw [if_neg (fun c => e2 c.2)]; exact hb
      · rw [if_neg hz]
        refine ⟨_, rfl, ?_⟩
        have hs0 := hv.2.1
        rw [addI_bit (by have := h.s64; omega)]
        unfold insCh
        by_cases e2 : sl = sl0
        · subst e2
          rw [if_pos ⟨rfl, rfl⟩]; simp
        · rw [if_neg (fun c => e2 c.2)]
          have e3 : ¬ sl0 = sl := fun c => e2 c.symm
          simp only [e3, decide_false, Bool.or_false]
          exact hb
    · refine ⟨set, ?_, ?_⟩
      · rw [insX_else (by omega) (by have := lk_ge (L := L) (S := S) t; omega) (Or.inl (by omega))]
        exact hx
      · unfold insCh
        rw [if_neg (fun c => e c.1)]; exact hb
  · unfold insCh at m1 m2
    by_cases e1 : lv = lv0 ∧ sl = sl0
    · by_cases e2 : lv' = lv0 ∧ sl' = sl0
      · exact ⟨e1.1.trans e2.1.symm, e1.2.trans e2.2.symm⟩
      · rw [if_pos e1] at m1
        rw [if_neg e2] at m2
        rcases List.mem_cons.1 m1 with m1 | m1
        · exact absurd (m1 ▸ m2) (hf lv' sl' g2)
        · exact h.nd lv sl lv' sl' t' g1 g2 m1 m2
    · rw [if_neg e1] at m1
      by_cases e2 : lv' = lv0 ∧ sl' = sl0
      · rw [if_pos e2] at m2
        rcases List.mem_cons.1 m2 with m2 | m2
        · exact absurd (m2 ▸ m1) (hf lv sl g1)
        · exact h.nd lv sl lv' sl' t' g1 g2 m1 m2
      · rw [if_neg e2] at m2
        exact h.nd lv sl lv' sl' t' g1 g2 m1 m2
  · unfold insCh
    split
    · exact List.nodup_cons.2 ⟨hf lv sl hvv, h.ndl lv sl hvv⟩
    · exact h.ndl lv sl hvv
  · unfold insCh at m
    split at m
    · rcases List.mem_cons.1 m with m | m
      · omega
      · exact h.lt lv sl t' hvv m
    · exact h.lt lv sl t' hvv m
theorem getD_zeros (n i : Nat) : (List.replicate n (0 : Int)).getD i 0 = 0 := by
  rw [List.getD_eq_getElem?_getD, List.getElem?_replicate]
  split <;> rfl
theorem Wst.empty (hS : 1 ≤ S) (h64 : S ≤ 64) (hN : 1 + L * (1 + S) ≤ N) : Wst L S N (List.replicate N 0) (fun _ _ => []) := by
  refine ⟨⟨List.length_replicate, fun k _ => ⟨0, Nat.two_pow_pos _, getD_zeros _ _⟩, fun i _ => ⟨0, by omega, getD_zeros _ _⟩⟩, fun x hx => ?_, hN, hS, h64, fun lv sl _ => ⟨0, getD_zeros _ _, rfl⟩, fun lv sl _ _ => ⟨0, getD_zeros _ _, by simp⟩, fun _ _ _ _ _ _ _ m => by simp at m, fun _ _ _ => List.nodup_nil, fun _ _ _ _ m => by simp at m⟩
  have := List.eq_of_mem_replicate hx
  omega
end Go.Proofs.Ytndpkonihcebeaa.Whl
