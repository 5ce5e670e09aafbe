/- Package wheel, in plain words: what Peek tells of lists. -/
import Derived.Test.YtndpkonihcebeaaNow
namespace Go.Proofs.Ytndpkonihcebeaa.Whl
open Go.RowKit Go.Proofs.Ytndpkonihcebeaa Go.Proofs.Ytndpkonihcebeaa.Cell Go.Proofs.Ytndpkonihcebeaa.Seq Go.Proofs.Ytndpkonihcebeaa.Num Go.Proofs.Ytndpkonihcebeaa.SetN Go.Proofs.Ytndpkonihcebeaa.Dig Go.Proofs.Ytndpkonihcebeaa.Bits
set_option linter.unusedVariables false
set_option linter.unusedSimpArgs false
variable {L S B N : Nat}

theorem nextV_cases (s a : Nat) (ha : a ≤ 64) : (∃ n : Nat, nextV s a = (n : Int) ∧ a ≤ n ∧ n < 64 ∧ s.testBit n = true ∧ ∀ i, a ≤ i → i < n → s.testBit i = false) ∨ (nextV s a = -1 ∧ ∀ i, a ≤ i → i < 64 → s.testBit i = false) := by
  rcases fromS_cases s (64 - a) a (by omega) with ⟨n, h1, h2, h3, h4, h5⟩ | ⟨h', h''⟩
  · exact Or.inl ⟨n, by unfold nextV; rw [h5], h1, h2, h3, h4⟩
  · exact Or.inr ⟨by unfold nextV; rw [h''], h'⟩
/-- The next list that holds something. -/
theorem Wst.next {xs : List Int} {chs : Nat → Nat → List Nat} (h : Wst L S N xs chs) {lv a : Nat} (hl : lv < L) (ha : a ≤ 64) :
    (∃ n : Nat, nextV (xs.getD (1 + lv) 0).toNat a = (n : Int) ∧ a ≤ n ∧ n < S ∧ chs lv n ≠ [] ∧ ∀ i, a ≤ i → i < n → chs lv i = []) ∨ (nextV (xs.getD (1 + lv) 0).toNat a = -1 ∧ ∀ i, a ≤ i → i < S → chs lv i = []) := by
  obtain ⟨set, hs, hx⟩ := h.good.maps lv hl
  have hS := h.s64
  have hb : ∀ i, i < S → (set.testBit i = true ↔ chs lv i ≠ []) := fun i hi => by
    obtain ⟨set', hx', hb'⟩ := h.mp lv i hl hi
    have : set' = set := by rw [hx] at hx'; omega
    subst this; exact hb'
  have hf : ∀ i, i < S → set.testBit i = false → chs lv i = [] := fun i hi h0 => by
    apply Classical.byContradiction
    intro c
    rw [(hb i hi).2 c] at h0
    cases h0
  rw [hx, Int.toNat_natCast]
  rcases nextV_cases set a ha with ⟨n, e, h1, h2, h3, h4⟩ | ⟨e, h4⟩
  · have hn : n < S := by
      apply Nat.lt_of_not_le
      intro c
      have := Nat.testBit_lt_two_pow (Nat.lt_of_lt_of_le hs (Nat.pow_le_pow_right (by decide) c))
      rw [this] at h3; cases h3
    exact Or.inl ⟨n, e, h1, hn, (hb n hn).1 h3, fun i g1 g2 => hf i (by omega) (h4 i g1 g2)⟩
  · exact Or.inr ⟨e, fun i g1 g2 => hf i g2 (h4 i g1 (by omega))⟩
theorem Wst.over {xs : List Int} {chs : Nat → Nat → List Nat} (h : Wst L S N xs chs) : xs.getD 0 0 = 0 ↔ chs L 0 = [] := by
  obtain ⟨h0, e, hc⟩ := h.chn L 0 ⟨Nat.le_refl _, h.s1, fun _ => rfl⟩
  have ha : at_ L S L 0 = 0 := by unfold at_; rw [if_pos (Nat.le_refl _)]
  rw [ha] at e
  rw [e, ← hc.nil_iff]; omega
/-- Where nothing is, Peek tells none. -/
theorem peek_none {xs : List Int} {chs : Nat → Nat → List Nat} (h : Wst L S N xs chs) (now : Int) (hn : ∀ a b, Val L S a b → chs a b = []) : ∀ d lv, lv + d = L → (peekR now L B xs d lv).1 = -1
  | 0, lv, _ => by
    unfold peekR
    rw [if_pos (h.over.2 (hn L 0 ⟨Nat.le_refl _, h.s1, fun _ => rfl⟩))]
  | d + 1, lv, hd => by
    unfold peekR
    rcases h.next (lv := lv) (a := dig now lv B + 1) (by omega) (dig_le _ _ _) with ⟨n, e, h1, h2, h3, _⟩ | ⟨e, _⟩
    · exact absurd (hn lv n ⟨by omega, h2, fun c => by omega⟩) h3
    · rw [if_pos (by omega)]
      exact peek_none h now hn d (lv + 1) (by omega)
theorem Stand.above {w n d lv sl l : Nat} (h : Stand w n d L lv sl) (hl : l + 1 ≤ lv) : n / 2 ^ (w * (l + 1)) < d / 2 ^ (w * (l + 1)) := by
  obtain ⟨hlt, i, hi1, h32, hi, hc⟩ := h
  have hne := hi.ne (l + 1) (by omega)
  have := Nat.div_le_div_right (c := 2 ^ (w * (l + 1))) (Nat.le_of_lt hlt)
  omega
theorem Stand.here {w n d lv sl : Nat} (h : Stand w n d L lv sl) (hl : lv < L) : n / 2 ^ (w * (lv + 1)) = d / 2 ^ (w * (lv + 1)) ∧ sl = d / 2 ^ (w * lv) % 2 ^ w ∧ n / 2 ^ (w * lv) % 2 ^ w < sl := by
  obtain ⟨hlt, i, hi1, h32, hi, hc⟩ := h
  rcases hc with ⟨h1, h2, h3⟩ | ⟨h1, h2, h3⟩
  · have e : i = lv + 1 := by omega
    rw [e] at hi
    refine ⟨hi.eq, h3, ?_⟩
    rw [h3]; exact hi.order.1 hlt
  · omega
/-- What stands above a level, or there in a slot at or behind another one, is due no earlier than that slot. -/
theorem Stand.least {w n d lv sl l k : Nat} (h : Stand w n d L lv sl) (hl : l < L) (hk : k < 2 ^ w) (hc : l < lv ∨ (lv = l ∧ k ≤ sl)) : n / 2 ^ (w * (l + 1)) * 2 ^ (w * (l + 1)) + k * 2 ^ (w * l) ≤ d := by
  have e : 2 ^ (w * (l + 1)) = 2 ^ w * 2 ^ (w * l) := by rw [← Nat.pow_add]; congr 1; rw [Nat.mul_add]; omega
  rcases hc with hc | ⟨rfl, hc⟩
  · have h1 := h.above (l := l) (by omega)
    have h2 : (n / 2 ^ (w * (l + 1)) + 1) * 2 ^ (w * (l + 1)) ≤ d := Nat.le_trans (Nat.mul_le_mul_right _ h1) (Nat.div_mul_le_self _ _)
    have h3 : k * 2 ^ (w * l) ≤ 2 ^ (w * (l + 1)) := by rw [e]; exact Nat.mul_le_mul_right _ (by omega)
    rw [Nat.add_mul, Nat.one_mul] at h2
    omega
  · obtain ⟨h1, h2, h3⟩ := h.here hl
    have h4 : d / 2 ^ (w * lv) * 2 ^ (w * lv) ≤ d := Nat.div_mul_le_self _ _
    rw [split w d lv, ← h1, ← h2, Nat.add_mul, Nat.mul_assoc, ← e] at h4
    have h5 : k * 2 ^ (w * lv) ≤ sl * 2 ^ (w * lv) := Nat.mul_le_mul_right _ hc
    omega
theorem flo_nat (t : Int) {k : Nat} (b : Int) (hk : k ≤ 64) : flo t (k : Int) b = tm t / 2 ^ (wd b * k) * 2 ^ (wd b * k) := by
  unfold flo sh
  rw [lv_nat k hk, Nat.mul_comm k]
/-- Nothing is due ahead of what Peek tells. -/
theorem peek_le {xs : List Int} {chs : Nat → Nat → List Nat} (h : Wst L S N xs chs) {now : Int} (hL : L ≤ 63) (hB1 : 1 ≤ B) (hB6 : B ≤ 6) (hS : S = 2 ^ B) {t a b : Nat} {due : Int} (hv : Val L S a b) (ht : t ∈ chs a b) (hp : Placed now due L B S a b)
    (hold : ∀ a b, Val L S a b → chs a b ≠ [] → ∃ d, Placed now d L B S a b) : ∀ d lv, lv + d = L → lv ≤ a → (peekR now L B xs d lv).1 ≤ (tm due : Int)
  | 0, lv, hd, hla => by
    obtain rfl : lv = L := by omega
    have ea : a = lv := by have := hv.1; omega
    subst ea
    have eb := hv.2.2 rfl
    subst eb
    unfold peekR
    rw [if_neg (fun c => by rw [h.over.1 c] at ht; simp at ht)]
    have hs := hp.stand
    have hw := wd_nat hB1 hB6
    rw [hw] at hs
    rw [flo_nat now (B : Int) (by omega), hw]
    obtain ⟨hlt, i, hi1, h32, hi, hc⟩ := hs
    have e3 : a ≤ i - 1 := by rcases hc with ⟨h1, h2, h3⟩ | ⟨h1, h2, h3⟩ <;> omega
    have hne := hi.ne a (by omega)
    have h4 := Nat.div_le_div_right (c := 2 ^ (B * a)) (Nat.le_of_lt hlt)
    have h5 : (tm now / 2 ^ (B * a) + 1) * 2 ^ (B * a) ≤ tm due := Nat.le_trans (Nat.mul_le_mul_right _ (by omega)) (Nat.div_mul_le_self _ _)
    rw [Nat.add_mul, Nat.one_mul] at h5
    rw [Nat.mul_comm a B]
    omega
  | d + 1, lv, hd, hla => by
    have hw := wd_nat hB1 hB6
    have hs := hp.stand
    rw [hw] at hs
    unfold peekR
    rcases h.next (lv := lv) (a := dig now lv B + 1) (by omega) (dig_le _ _ _) with ⟨n, e, h1, h2, h3, h4⟩ | ⟨e, h4⟩
    · rw [if_neg (by omega), e]
      have e2 : ((lv : Int) + 1) = ((lv + 1 : Nat) : Int) := by omega
      rw [e2, flo_nat now (B : Int) (by omega), hw]
      have hc : lv < a ∨ (a = lv ∧ n ≤ b) := by
        by_cases hx : lv < a
        · exact Or.inl hx
        · obtain rfl : a = lv := by omega
          refine Or.inr ⟨rfl, ?_⟩
          have hh := (hs.here (by omega)).2.2
          rw [dig_nat now (B : Int) (by omega), hw] at h4
          apply Nat.le_of_not_lt
          intro c
          rw [h4 b (by omega) c] at ht
          simp at ht
      have hle := hs.least (l := lv) (k := n) (by omega) (by omega) hc
      rw [Nat.mul_comm lv B]
      simp only
      have e5 : ((n : Int)) * ((2 ^ (B * lv) : Nat) : Int) = ((n * 2 ^ (B * lv) : Nat) : Int) := by push_cast; rfl
      rw [e5]
      omega
    · rw [if_pos (by omega)]
      refine peek_le h hL hB1 hB6 hS hv ht hp hold d (lv + 1) (by omega) ?_
      by_cases hx : lv < a
      · omega
      · obtain rfl : a = lv := by omega
        exfalso
        have hh := (hs.here (by omega)).2.2
        rw [dig_nat now (B : Int) (by omega), hw] at h4
        rw [h4 b (by omega) hv.2.1] at ht
        simp at ht
end Go.Proofs.Ytndpkonihcebeaa.Whl
