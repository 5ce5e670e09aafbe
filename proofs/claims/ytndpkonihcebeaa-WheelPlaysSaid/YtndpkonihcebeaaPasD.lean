/- Package wheel: pass, the whole. -/
import Derived.Test.YtndpkonihcebeaaPasC
namespace Go.Proofs.Ytndpkonihcebeaa.Whl
open Go.RowKit Go.Proofs.Ytndpkonihcebeaa Go.Proofs.Ytndpkonihcebeaa.Cell Go.Proofs.Ytndpkonihcebeaa.Seq Go.Proofs.Ytndpkonihcebeaa.Num Go.Proofs.Ytndpkonihcebeaa.SetN Go.Proofs.Ytndpkonihcebeaa.Dig Go.Proofs.Ytndpkonihcebeaa.Bits
set_option linter.unusedVariables false
set_option linter.unusedSimpArgs false
variable {a b B0 bl bs L S B : Nat} {Q : World → Zone → Int → Prop} {cr : Nat → Option (Nat × Nat)} {fr to' : Int}

theorem Made.at_least {w w' : World} {n : Nat} (h : Made w w') (hn : n ≤ w.heap.size) : n ≤ w'.heap.size := Nat.le_trans hn h.size
theorem up_takes {d lv n N bw b1 b2 bv bt : Nat} {f : FuncId} {cap : Array Value} {w : World} {Z : Zone} {c : Int} {xs l : List Int} (IH : PassOK a b B0 bl bs L S B Q cr fr to' d (lv + 1)) (hz : ZOk a b w Z) (ha : a < B0) (hb : b < B0) (hB0 : B0 ≤ w.heap.size) (hE : Env w Z bl bs L S) (hl : l.length + d * 64 + 1 ≤ 90000) (hg : Good L S N xs) (hN : 1 + L + L * S ≤ N) (hc : c + ((d * 66 + 1 : Nat) : Int) < 4611686018427387904) (hd : lv + 1 + d = L)
    (h0 : Blk w Z bw (OW a bl bs L B)) (h1 : Blk w Z b1 (OI fr)) (h2 : Blk w Z b2 (OI to')) (h3 : Blk w Z bv (OI lv)) (h4 : Blk w Z bt (OL f cap))
    (ht : TakesL a b B0 n f cap w Z (passR cr L S d (lv + 1) (xs, l, c)).2.2 (passR cr L S d (lv + 1) (xs, l, c)).1 (passR cr L S d (lv + 1) (xs, l, c)).2.1 Q) :
    TakesL a b B0 (n + (d * 66 + 1)) 127 #[.pointer (some ⟨bw, 0, none⟩), .pointer (some ⟨b1, 0, none⟩), .pointer (some ⟨b2, 0, none⟩), .pointer (some ⟨bv, 0, none⟩), .pointer (some ⟨bt, 0, none⟩)] w Z c xs l Q := by
  refine ⟨enters_of Try.func127 (by kernel_rfl) rfl, fun w2 Z2 s2 hla hz2 hA2 hO2 => ?_⟩
  have hL8 := hE.l5
  refine pass1_w hO2.shape (by omega) (h0.later hla.ext) (h1.later hla.ext) (h2.later hla.ext) (h3.later hla.ext) (h4.later hla.ext) ?_
  have hh := IH (n := n) (N := N) hz2 ha hb (Nat.le_trans hB0 hla.ext.size) (hE.later hla.ext) hA2 hO2 hl hg hN hc hd (ht.later hla)
  rw [show (((lv + 1 : Nat) : Nat) : Int) = (lv : Int) + 1 by push_cast; rfl] at hh
  exact hh
theorem heads_of {N : Nat} {xs : List Int} (h : Good L S N xs) : Heads (fun i => 1 + L ≤ i) xs := fun i hi => h.heads i (Or.inr hi)
theorem pass_w (hcr : Crs fr to' B cr) : ∀ d lv, PassOK a b B0 bl bs L S B Q cr fr to' d lv := by
  intro d
  induction d with
  | zero =>
    intro lv n N f cap w Z c xs l s hz ha hb hB0 hE hA hO hl hg hN hc hd ht
    have hlL : lv = L := by omega
    have hS1 := hE.s1
    have hLS : L ≤ L * S := Nat.le_mul_of_pos_right _ (by omega)
    have hL1 := hE.l1
    cases hcv : cr lv with
    | none =>
      have e : passR cr L S 0 lv (xs, l, c) = (xs, l, c) := by unfold passR; rw [hcv]
      rw [e] at ht
      refine pass_pre (lo := 0) (hi := 0) (any := false) hz hE hA hO ht.en (by omega) (by rw [hg.len]; subst hlL; have : lv * 1 ≤ lv * S := Nat.mul_le_mul_left _ (by omega); omega) (hcr.no lv hcv) (by omega) (fun _ w1 hm => ?_) (fun h => by simp at h) (fun h => by simp at h)
      exact (ht.run w1 Z s (Late.of_made hz hm) (hz.later hm.size) (hA.later hm) (hO.made hm)).mono fun e w2 he => (he.pre (Work.of_made hz hm)).more (by omega)
    | some p =>
      obtain ⟨lo, hi⟩ := p
      obtain ⟨hcx, hlo, hhi⟩ := hcr.yes lv lo hi hcv
      have e : passR cr L S 0 lv (xs, l, c) = (xs.set 0 0, if xs.getD 0 0 = 0 then l else l ++ [xs.getD 0 0 - 1], c + 1) := by unfold passR; rw [hcv]
      rw [e] at ht
      refine pass_pre (lo := lo) (hi := hi) (any := true) hz hE hA hO ht.en (by omega) (by rw [hg.len]; subst hlL; have : lv * 1 ≤ lv * S := Nat.mul_le_mul_left _ (by omega); omega) hcx (by omega) (fun h => by simp at h) (fun _ _ w1 hm => ?_) (fun _ h => by omega)
      obtain ⟨first, hf, hx⟩ := hg.heads 0 (Or.inl rfl)
      have ht1 := ht.later (Late.of_made hz hm)
      have e2 : (if xs.getD 0 0 = 0 then l else l ++ [xs.getD 0 0 - 1]) = (if first = 0 then l else l ++ [(first : Int) - 1]) := by
        rw [hx]
        by_cases h0 : first = 0
        · rw [if_pos (by omega), if_pos h0]
        · rw [if_neg (by omega), if_neg h0]
      simp only [e2] at ht1
      exact (off_w (Q := Q) (B := B) (at' := 0) (n := n) (hz.later hm.size) ha hb (Nat.le_trans hB0 hm.size) (hA.later hm) (hO.made hm) (by omega) (by rw [hg.len]; omega) hx hf (by omega) ht1).mono fun e w2 he => (he.pre (Work.of_made hz hm)).more (by omega)
  | succ d ih =>
    intro lv n N f cap w Z c xs l s hz ha hb hB0 hE hA hO hl hg hN hc hd ht
    have hlL : lv < L := by omega
    have hS1 := hE.s1
    have hLS : L ≤ L * S := Nat.le_mul_of_pos_right _ (by omega)
    have hcd : (((d + 1) * 66 + 1 : Nat) : Int) = ((d * 66 + 1 : Nat) : Int) + 66 := by omega
    cases hcv : cr lv with
    | none =>
      have e : passR cr L S (d + 1) lv (xs, l, c) = (xs, l, c) := by unfold passR; rw [hcv]
      rw [e] at ht
      refine pass_pre (lo := 0) (hi := 0) (any := false) hz hE hA hO ht.en (by omega) (by rw [hg.len]; omega) (hcr.no lv hcv) (by omega) (fun _ w1 hm => ?_) (fun h => by simp at h) (fun h => by simp at h)
      exact (ht.run w1 Z s (Late.of_made hz hm) (hz.later hm.size) (hA.later hm) (hO.made hm)).mono fun e w2 he => (he.pre (Work.of_made hz hm)).more (by omega)
    | some p =>
      obtain ⟨lo, hi⟩ := p
      obtain ⟨hcx, hlo, hhi⟩ := hcr.yes lv lo hi hcv
      refine pass_pre (lo := lo) (hi := hi) (any := true) hz hE hA hO ht.en (by omega) (by rw [hg.len]; omega) hcx (by omega) (fun h => by simp at h) (fun _ h => by omega) (fun _ _ w1 b1 b2 bu bf bw bv bfr bto bt hm g1 g2 g3 g4 g5 g6 g7 g8 g9 => ?_)
      obtain ⟨set, hset, hx⟩ := hg.maps lv hlL
      have ht1 := ht.later (Late.of_made hz hm)
      have hz1 := hz.later hm.size
      have hE1 := hE.later (Ext.of_made hm)
      have hB1 := Nat.le_trans hB0 hm.size
      refine (Load_s (n := n + (d * 66 + 1) + 65) (Q := Q) (hA.later hm) hz1 (by omega) (by rw [hg.len]; omega) (enters_of Try.func129 (by kernel_rfl) rfl) ?_).mono (fun e w2 he => he.more (by omega))
      intro w2 Z2 hmid hz2 hA2
      rw [hx]
      have hO2 := (hO.made hm).mid ha hb hmid
      have hE2 := hE1.later hmid.ext
      have hB2 := Nat.le_trans hB1 hmid.ext.size
      have ht2 := ht1.later (Late.of_mid hmid)
      have es : (xs.getD (1 + lv) 0).toNat = set := by rw [hx, Int.toNat_natCast]
      by_cases hg0 : gone set lo hi = 0
      · have e : passR cr L S (d + 1) lv (xs, l, c) = passR cr L S d (lv + 1) (xs, l, c + 1) := by
          conv => lhs; unfold passR
          rw [hcv]
          simp only [es, hg0, if_true]
        rw [e] at ht2
        have hup := up_takes (N := N) (ih (lv + 1)) hz2 ha hb hB2 hE2 (by omega) hg hN (by omega) (by omega) (g4.later hmid.ext) (g6.later hmid.ext) (g7.later hmid.ext) (g5.later hmid.ext) (g8.later hmid.ext) ht2
        exact (pass2_no (lv := lv) hz2 hA2 hO2 (Nat.lt_of_lt_of_le hset (Nat.pow_le_pow_right (by decide) hE.s2)) hhi hg0 (g1.later hmid.ext) (g2.later hmid.ext) (g3.later hmid.ext) (g9.later hmid.ext) hup).mono fun e w3 he => he.more (by omega)
      · have hsl := slots_len (gone set lo hi)
        have e : passR cr L S (d + 1) lv (xs, l, c) = passR cr L S d (lv + 1) (takeX (ats L S lv (gone set lo hi)) (xs.set (1 + lv) (clr set (gone set lo hi) : Nat)), takeL (ats L S lv (gone set lo hi)) (xs.set (1 + lv) (clr set (gone set lo hi) : Nat)) l, c + 1 + 1 + ((slotsOf (gone set lo hi)).length : Int)) := by
          conv => lhs; unfold passR
          rw [hcv]
          simp only [es, hg0, if_false]
        rw [e] at ht2
        have hg2 : Good L S N (xs.set (1 + lv) (clr set (gone set lo hi) : Nat)) := hg.map hlL (Nat.lt_of_le_of_lt (clr_le _ _) hset) (by omega)
        have hg3 := hg2.take (ats L S lv (gone set lo hi)) (fun i hi' => ats_ge hi')
        have hal : (ats L S lv (gone set lo hi)).length ≤ 64 := by unfold ats; rw [List.length_map]; exact hsl
        have htl := takeL_len (ats L S lv (gone set lo hi)) (xs.set (1 + lv) (clr set (gone set lo hi) : Nat)) l
        have hup := up_takes (N := N) (ih (lv + 1)) hz2 ha hb hB2 hE2 (by omega) hg3 hN (by omega) (by omega) (g4.later hmid.ext) (g6.later hmid.ext) (g7.later hmid.ext) (g5.later hmid.ext) (g8.later hmid.ext) ht2
        exact pass2_yes hz2 ha hb hB2 hE2 hA2 hO2 (by omega) hset hlo hhi hg0 (by rw [hg.len]; exact hN) (heads_of hg) (by omega) hlL (g1.later hmid.ext) (g2.later hmid.ext) (g3.later hmid.ext) (g9.later hmid.ext) (g4.later hmid.ext) (g5.later hmid.ext) hup
end Go.Proofs.Ytndpkonihcebeaa.Whl
