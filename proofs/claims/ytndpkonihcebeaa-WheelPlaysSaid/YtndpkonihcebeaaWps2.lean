/- Package wheel, in plain words: Pass at one level, and the whole. -/
import Derived.Test.YtndpkonihcebeaaWps
namespace Go.Proofs.Ytndpkonihcebeaa.Whl
open Go.RowKit Go.Proofs.Ytndpkonihcebeaa Go.Proofs.Ytndpkonihcebeaa.Cell Go.Proofs.Ytndpkonihcebeaa.Seq Go.Proofs.Ytndpkonihcebeaa.Num Go.Proofs.Ytndpkonihcebeaa.SetN Go.Proofs.Ytndpkonihcebeaa.Dig Go.Proofs.Ytndpkonihcebeaa.Bits
set_option linter.unusedVariables false
set_option linter.unusedSimpArgs false
variable {L S N : Nat}

theorem takeX_wide : ∀ (l : List Nat) {xs : List Int}, Wide xs → Wide (takeX l xs)
  | [], _, h => h
  | i :: r, _, h => by rw [takeX]; exact takeX_wide r (h.set _ (by omega))
theorem clrCh_in {lv lo hi a b : Nat} {chs : Nat → Nat → List Nat} {t : Nat} (h : t ∈ clrCh lv lo hi chs a b) : t ∈ chs a b := by
  unfold clrCh at h
  split at h
  · simp at h
  · exact h
theorem at_lt {lv sl : Nat} (h : lv < L) : at_ L S lv sl = 1 + L + lv * S + sl := by unfold at_; rw [if_neg (by omega)]
/-- What one level's passing makes. -/
structure Lvl (L S N lv lo hi : Nat) (xs X : List Int) (l l' : List Int) (chs : Nat → Nat → List Nat) : Prop where
  wst : Wst L S N X (clrCh lv lo hi chs)
  links : ∀ t, X.getD (lk L S t) 0 = xs.getD (lk L S t) 0
  parts : ∃ (fs : List Nat) (cs : List (List Nat)), l' = l ++ (fs.map fun t : Nat => (t : Int)) ∧ fs.length = cs.length ∧ (∀ (k f : Nat) (ch : List Nat), fs[k]? = some f → cs[k]? = some ch → f < 100 ∧ Chn L S xs ch (f + 1)) ∧ cs.flatten = (List.range S).flatMap (fun b => if lo ≤ b ∧ b ≤ hi then chs lv b else [])
theorem level_step {xs : List Int} {chs : Nat → Nat → List Nat} (h : Wst L S N xs chs) {lv lo hi set : Nat} (hlv : lv < L) (hx : xs.getD (1 + lv) 0 = (set : Int)) (hset : set < 2 ^ S) (hhi : hi ≤ 63) (l : List Int) :
    Lvl L S N lv lo hi xs (takeX (ats L S lv (gone set lo hi)) (xs.set (1 + lv) (clr set (gone set lo hi) : Nat))) l (takeL (ats L S lv (gone set lo hi)) (xs.set (1 + lv) (clr set (gone set lo hi) : Nat)) l) chs := by
  obtain ⟨g, hg⟩ : ∃ g, g = gone set lo hi := ⟨_, rfl⟩
  have hlen := h.good.len
  have hS1 := h.s1
  have hS64 := h.s64
  have hLS : L ≤ L * S := Nat.le_mul_of_pos_right _ (by omega)
  have hN := h.hn
  rw [LS_eq] at hN
  have hset64 : set < 2 ^ 64 := Nat.lt_of_lt_of_le hset (Nat.pow_le_pow_right (by decide) hS64)
  have hg64 : g < 2 ^ 64 := by rw [hg]; exact gone_lt _ _ _
  have gb : ∀ i, g.testBit i = (set.testBit i && decide (lo ≤ i) && decide (i ≤ hi)) := fun i => by rw [hg]; exact gone_bit hhi i
  have big : ∀ i, S ≤ i → set.testBit i = false := fun i hi' => Nat.testBit_lt_two_pow (Nat.lt_of_lt_of_le hset (Nat.pow_le_pow_right (by decide) hi'))
  have mpb : ∀ sl, sl < S → (set.testBit sl = true ↔ chs lv sl ≠ []) := fun sl hs => by
    obtain ⟨s2, e, hb⟩ := h.mp lv sl hlv hs
    have : s2 = set := by rw [hx] at e; exact_mod_cast e.symm
    exact this ▸ hb
  rw [← hg]
  have inats : ∀ i, i ∈ ats L S lv g ↔ ∃ j, j ∈ slotsOf g ∧ i = 1 + L + lv * S + j := fun i => by
    unfold ats
    rw [List.mem_map]
    exact ⟨fun ⟨j, h1, h2⟩ => ⟨j, h1, h2.symm⟩, fun ⟨j, h1, h2⟩ => ⟨j, h1, h2.symm⟩⟩
  have slg : ∀ j, j ∈ slotsOf g → j < S ∧ set.testBit j = true ∧ lo ≤ j ∧ j ≤ hi := fun j hj => by
    have h2 := (slots_mem.1 hj).2
    rw [gb] at h2
    simp only [Bool.and_eq_true, decide_eq_true_eq] at h2
    refine ⟨?_, h2.1.1, h2.1.2, h2.2⟩
    apply Nat.lt_of_not_le
    intro c
    rw [big j c] at h2
    exact absurd h2.1.1 (by decide)
  have slot_lt : ∀ j, j < S → 1 + L + lv * S + j < 1 + L + L * S := fun j hj => by
    have h1 : (lv + 1) * S ≤ L * S := Nat.mul_le_mul_right _ (by omega)
    rw [Nat.add_mul, Nat.one_mul] at h1
    omega
  have gX : ∀ i, (takeX (ats L S lv g) (xs.set (1 + lv) (clr set g : Nat))).getD i 0 = if i ∈ ats L S lv g then 0 else if i = 1 + lv then ((clr set g : Nat) : Int) else xs.getD i 0 := fun i => by
    rw [takeX_getD]
    by_cases h1 : i ∈ ats L S lv g
    · rw [if_pos h1, if_pos h1]
    · rw [if_neg h1, if_neg h1]
      by_cases h2 : i = 1 + lv
      · subst h2; rw [if_pos rfl, getD_set_eq' (by omega)]
      · rw [if_neg h2, getD_set_ne' (fun e => h2 e.symm)]
  have nats : ∀ i, (i ≤ L ∧ i ≠ 0) ∨ 1 + L + L * S ≤ i ∨ i = 0 → i ∉ ats L S lv g := fun i hi' hc => by
    obtain ⟨j, hj, rfl⟩ := (inats i).1 hc
    have := slot_lt j (slg j hj).1
    omega
  have lnk : ∀ t, (takeX (ats L S lv g) (xs.set (1 + lv) (clr set g : Nat))).getD (lk L S t) 0 = xs.getD (lk L S t) 0 := fun t => by
    have hk := lk_ge (L := L) (S := S) t
    rw [gX, if_neg (nats _ (Or.inr (Or.inl hk))), if_neg (by omega)]
  have lenX : (takeX (ats L S lv g) (xs.set (1 + lv) (clr set g : Nat))).length = xs.length := by rw [takeX_len, List.length_set]
  have nonempty : ∀ j, j ∈ slotsOf g → ∃ t r, chs lv j = t :: r ∧ t < 20 ∧ xs.getD (1 + L + lv * S + j) 0 = ((t + 1 : Nat) : Int) ∧ Chn L S xs (t :: r) (t + 1) := fun j hj => by
    obtain ⟨hjS, hb, _, _⟩ := slg j hj
    have hv : Val L S lv j := ⟨by omega, hjS, by omega⟩
    obtain ⟨hd, e1, e2⟩ := h.chn lv j hv
    rw [at_lt hlv] at e1
    cases hch : chs lv j with
    | nil => exact absurd hch ((mpb j hjS).1 hb)
    | cons t r =>
      rw [hch] at e2
      have e3 := e2.1
      subst e3
      exact ⟨t, r, rfl, h.lt lv j t hv (by rw [hch]; exact List.mem_cons_self), e1, e2⟩
  refine ⟨⟨⟨by rw [lenX]; exact hlen, fun k hk => ?_, fun i hi' => ?_⟩, takeX_wide _ (h.wide.set _ ?_), h.hn, h.s1, h.s64, fun a b hv => ?_, fun a b ha hb => ?_, fun a b a' b' t g1 g2 m1 m2 => h.nd a b a' b' t g1 g2 (clrCh_in m1) (clrCh_in m2), fun a b hv => ?_, fun a b t hv m => h.lt a b t hv (clrCh_in m)⟩, lnk, ?_⟩
  · rw [gX, if_neg (nats _ (Or.inl (by omega)))]
    by_cases e : 1 + k = 1 + lv
    · rw [if_pos e]; exact ⟨_, Nat.lt_of_le_of_lt (clr_le _ _) hset, rfl⟩
    · rw [if_neg e]; exact h.good.maps k hk
  · rw [gX]
    split
    · exact ⟨0, by omega, rfl⟩
    · rw [if_neg (by omega)]; exact h.good.heads i hi'
  · have := Nat.lt_of_le_of_lt (clr_le set g) hset64
    omega
  · have ha := at_range hv
    unfold clrCh
    by_cases hp : a = lv ∧ lo ≤ b ∧ b ≤ hi
    · rw [if_pos hp]
      obtain ⟨rfl, hp2⟩ := hp
      refine ⟨0, ?_, rfl⟩
      rw [gX]
      by_cases hm : at_ L S a b ∈ ats L S a g
      · rw [if_pos hm]; rfl
      · rw [if_neg hm, if_neg (by omega)]
        have hbit : set.testBit b = false := by
          cases hbb : set.testBit b with
          | false => rfl
          | true =>
            exfalso
            apply hm
            rw [inats]
            refine ⟨b, slots_mem.2 ⟨by have := hv.2.1; omega, ?_⟩, at_lt hlv⟩
            rw [gb, hbb]; simp [hp2.1, hp2.2]
        obtain ⟨hd, e1, e2⟩ := h.chn a b hv
        have hnil : chs a b = [] := by
          apply Classical.byContradiction
          intro c
          have := (mpb b hv.2.1).2 c
          rw [hbit] at this; exact absurd this (by decide)
        rw [hnil] at e2
        rw [e1, show hd = 0 from e2]
    · rw [if_neg hp]
      obtain ⟨hd, e1, e2⟩ := h.chn a b hv
      refine ⟨hd, ?_, e2.move lenX fun t _ => lnk t⟩
      rw [gX, if_neg (fun hm => ?_), if_neg (by omega)]
      · exact e1
      · obtain ⟨j, hj, e⟩ := (inats _).1 hm
        obtain ⟨hjS, _, h3, h4⟩ := slg j hj
        rw [← at_lt (L := L) (S := S) hlv] at e
        have := at_inj hv ⟨by omega, hjS, by omega⟩ e
        exact hp ⟨this.1, by omega, by omega⟩
  · obtain ⟨s2, e1, e2⟩ := h.mp a b ha hb
    by_cases e : a = lv
    · subst e
      have es : s2 = set := by rw [hx] at e1; exact_mod_cast e1.symm
      subst es
      refine ⟨clr s2 g, ?_, ?_⟩
      · rw [gX, if_neg (nats _ (Or.inl (by omega))), if_pos rfl]
      · rw [clr_bit hset64 hg64, gb]
        unfold clrCh
        by_cases hp : lo ≤ b ∧ b ≤ hi
        · rw [if_pos ⟨rfl, hp⟩]
          simp [hp.1, hp.2]
        · rw [if_neg (fun c => hp c.2)]
          have : (decide (lo ≤ b) && decide (b ≤ hi)) = false := by
            by_cases h1 : lo ≤ b
            · simp [h1, show ¬ b ≤ hi from fun c => hp ⟨h1, c⟩]
            · simp [h1]
          rw [Bool.and_assoc, this, Bool.and_false, Bool.not_false, Bool.and_true]
          exact e2
    · refine ⟨s2, ?_, ?_⟩
      · rw [gX, if_neg (nats _ (Or.inl (by omega))), if_neg (by omega)]; exact e1
      · unfold clrCh; rw [if_neg (fun c => e c.1)]; exact e2
  · unfold clrCh
    split
    · exact List.nodup_nil
    · exact h.ndl a b hv
  · refine ⟨(slotsOf g).map (fun j => (chs lv j).headD 0), (slotsOf g).map (chs lv), ?_, by simp, fun k f ch h1 h2 => ?_, ?_⟩
    · rw [takeL_all]
      · unfold ats
        rw [List.map_map, List.map_map]
        congr 1
        apply List.map_congr_left
        intro j hj
        obtain ⟨t, r, e1, _, e2, _⟩ := nonempty j hj
        simp only [Function.comp]
        rw [getD_set_ne' (by omega), e2, e1]
        simp
      · unfold ats
        rw [List.Nodup, List.pairwise_map]
        exact (slots_nodup g).imp fun {x y} hne e => hne (by omega)
      · intro i hi'
        obtain ⟨j, hj, rfl⟩ := (inats i).1 hi'
        obtain ⟨t, r, e1, _, e2, _⟩ := nonempty j hj
        rw [getD_set_ne' (by omega), e2]
        omega
    · rw [List.getElem?_map] at h1 h2
      obtain ⟨j, hj, rfl⟩ := Option.map_eq_some_iff.1 h1
      rw [hj] at h2
      have h2 := Option.some.inj h2
      obtain ⟨t, r, e1, e2, e3, e4⟩ := nonempty j (List.mem_of_getElem? hj)
      subst h2
      rw [e1]
      exact ⟨by simp only [List.headD_cons]; omega, e4⟩
    · rw [← List.flatMap_def]
      refine slots_flat hS64 _ _ (fun i hi' => ?_) (fun i hi' => by rw [gb, big i hi']; rfl)
      rw [gb]
      by_cases hb : set.testBit i = true
      · by_cases hp : lo ≤ i ∧ i ≤ hi
        · rw [if_pos (by simp [hb, hp.1, hp.2]), if_pos hp]
        · rw [if_neg (by simp [hb]; omega), if_neg hp]
      · rw [if_neg (by simp [hb])]
        have : chs lv i = [] := by
          apply Classical.byContradiction
          intro c
          exact hb ((mpb i hi').2 c)
        rw [this]
        split <;> rfl
/-- The lists behind a Pass, from a level on; the tickets that were passed. -/
def passCh (cr : Nat → Option (Nat × Nat)) : Nat → Nat → (Nat → Nat → List Nat) → Nat → Nat → List Nat
  | 0, lv, chs => match cr lv with
    | none => chs
    | some _ => fun a b => if a = lv then [] else chs a b
  | d + 1, lv, chs => match cr lv with
    | none => chs
    | some (lo, hi) => passCh cr d (lv + 1) (clrCh lv lo hi chs)
def passG (cr : Nat → Option (Nat × Nat)) (S : Nat) : Nat → Nat → (Nat → Nat → List Nat) → List Nat
  | 0, lv, chs => match cr lv with
    | none => []
    | some _ => chs lv 0
  | d + 1, lv, chs => match cr lv with
    | none => []
    | some (lo, hi) => ((List.range S).flatMap fun b => if lo ≤ b ∧ b ≤ hi then chs lv b else []) ++ passG cr S d (lv + 1) chs
theorem passG_clr {cr : Nat → Option (Nat × Nat)} {lv lo hi : Nat} {chs : Nat → Nat → List Nat} : ∀ d lv', lv < lv' → passG cr S d lv' (clrCh lv lo hi chs) = passG cr S d lv' chs
  | 0, lv', h => by
    unfold passG clrCh
    cases cr lv' with
    | none => rfl
    | some p => simp only []; rw [if_neg (fun c => by omega)]
  | d + 1, lv', h => by
    unfold passG
    cases cr lv' with
    | none => rfl
    | some p =>
      obtain ⟨lo2, hi2⟩ := p
      simp only []
      rw [passG_clr d (lv' + 1) (by omega)]
      congr 1
      apply flatMap_congr'
      intro b _
      unfold clrCh
      rw [if_neg (fun c : lv' = lv ∧ _ => by omega)]
/-- What a Pass makes, from a level on. -/
structure Psd (L S N : Nat) (xs X : List Int) (l l' : List Int) (c c' : Int) (bound : Nat) (chs chs' : Nat → Nat → List Nat) (G : List Nat) : Prop where
  wst : Wst L S N X chs'
  links : ∀ t, X.getD (lk L S t) 0 = xs.getD (lk L S t) 0
  parts : ∃ (fs : List Nat) (cs : List (List Nat)), l' = l ++ (fs.map fun t : Nat => (t : Int)) ∧ fs.length = cs.length ∧ (∀ (k f : Nat) (ch : List Nat), fs[k]? = some f → cs[k]? = some ch → f < 100 ∧ Chn L S X ch (f + 1)) ∧ cs.flatten = G
  cost : c ≤ c' ∧ c' ≤ c + (bound : Int)
theorem Psd.refl {xs l : List Int} {c : Int} {b : Nat} {chs : Nat → Nat → List Nat} (h : Wst L S N xs chs) : Psd L S N xs xs l l c c b chs chs [] :=
  ⟨h, fun _ => rfl, ⟨[], [], by simp, rfl, fun k f ch h1 => by simp at h1, rfl⟩, by omega⟩
theorem pass_wst (cr : Nat → Option (Nat × Nat)) (hcr : ∀ lv lo hi, cr lv = some (lo, hi) → hi ≤ 63) : ∀ d lv (xs l : List Int) (c : Int) (chs : Nat → Nat → List Nat), Wst L S N xs chs → lv + d = L →
    Psd L S N xs (passR cr L S d lv (xs, l, c)).1 l (passR cr L S d lv (xs, l, c)).2.1 c (passR cr L S d lv (xs, l, c)).2.2 (d * 66 + 1) chs (passCh cr d lv chs) (passG cr S d lv chs) := by
  intro d
  induction d with
  | zero =>
    intro lv xs l c chs h hd
    have hS1 := h.s1
    have hlen := h.good.len
    have hN := h.hn
    cases hc : cr lv with
    | none =>
      unfold passR passCh passG
      rw [hc]
      exact Psd.refl h
    | some p =>
      unfold passR passCh passG
      rw [hc]
      have hlL : lv = L := by omega
      have hv : Val L S lv 0 := ⟨by omega, by omega, fun _ => rfl⟩
      obtain ⟨hd0, e1, e2⟩ := h.chn lv 0 hv
      have ha : at_ L S lv 0 = 0 := by unfold at_; rw [if_pos (by omega)]
      rw [ha] at e1
      have g0 : ∀ i, (xs.set 0 0).getD i 0 = if i = 0 then 0 else xs.getD i 0 := fun i => by
        by_cases hi : i = 0
        · subst hi; rw [if_pos rfl, getD_set_eq' (by omega)]
        · rw [if_neg hi, getD_set_ne' (fun e => hi e.symm)]
      have lnk : ∀ t, (xs.set 0 0).getD (lk L S t) 0 = xs.getD (lk L S t) 0 := fun t => by rw [g0, if_neg (by have := lk_ge (L := L) (S := S) t; omega)]
      have hw : Wst L S N (xs.set 0 0) (fun a b => if a = lv then [] else chs a b) := by
        refine ⟨h.good.head0 (Or.inl rfl), h.wide.set _ (by omega), h.hn, h.s1, h.s64, fun a b hvv => ?_, fun a b haL hb => ?_, fun a b a' b' t g1 g2 m1 m2 => ?_, fun a b hvv => ?_, fun a b t hvv m => ?_⟩
        · by_cases e : a = lv
          · rw [if_pos e]
            refine ⟨0, ?_, rfl⟩
            have : at_ L S a b = 0 := by unfold at_; rw [if_pos (by omega)]
            rw [this, g0, if_pos rfl]; rfl
          · rw [if_neg e]
            obtain ⟨hd1, f1, f2⟩ := h.chn a b hvv
            have hr := at_range hvv
            have hne : at_ L S a b ≠ 0 := by unfold at_; rw [if_neg (by have := hvv.1; omega)]; omega
            exact ⟨hd1, by rw [g0, if_neg hne]; exact f1, f2.move (by rw [List.length_set]) fun t _ => lnk t⟩
        · rw [if_neg (by omega)]
          obtain ⟨s2, f1, f2⟩ := h.mp a b haL hb
          exact ⟨s2, by rw [g0, if_neg (by omega)]; exact f1, f2⟩
        · split at m1
          · simp at m1
          · split at m2
            · simp at m2
            · exact h.nd a b a' b' t g1 g2 m1 m2
        · split
          · exact List.nodup_nil
          · exact h.ndl a b hvv
        · split at m
          · simp at m
          · exact h.lt a b t hvv m
      cases hch : chs lv 0 with
      | nil =>
        rw [hch] at e2
        have hz : xs.getD 0 0 = 0 := by rw [e1, show hd0 = 0 from e2]; rfl
        simp only []
        rw [if_pos hz]
        exact ⟨hw, lnk, ⟨[], [], by simp, rfl, fun k f ch h1 => by simp at h1, rfl⟩, by omega⟩
      | cons t r =>
        rw [hch] at e2
        have e3 := e2.1
        subst e3
        have hnz : ¬ xs.getD 0 0 = 0 := by rw [e1]; omega
        simp only []
        rw [if_neg hnz]
        refine ⟨hw, lnk, ⟨[t], [t :: r], ?_, rfl, fun k f ch h1 h2 => ?_, by simp⟩, by omega⟩
        · rw [e1]; push_cast; simp
        · cases k with
          | zero =>
            simp only [List.getElem?_cons_zero, Option.some.injEq] at h1 h2
            subst h1 h2
            exact ⟨by have := h.lt lv 0 t hv (by rw [hch]; exact List.mem_cons_self); omega, e2.move (by rw [List.length_set]) fun t _ => lnk t⟩
          | succ k => simp at h1
  | succ d ih =>
    intro lv xs l c chs h hd
    cases hc : cr lv with
    | none =>
      unfold passR passCh passG
      rw [hc]
      exact Psd.refl h
    | some p =>
      obtain ⟨lo, hi⟩ := p
      have hhi := hcr lv lo hi hc
      have hlv : lv < L := by omega
      obtain ⟨set, hset, hx⟩ := h.good.maps lv hlv
      have es : (xs.getD (1 + lv) 0).toNat = set := by rw [hx, Int.toNat_natCast]
      have hst := level_step h hlv hx hset hhi (lo := lo) l
      have hsl := slots_len (gone set lo hi)
      have eG : passG cr S (d + 1) lv chs = ((List.range S).flatMap fun b => if lo ≤ b ∧ b ≤ hi then chs lv b else []) ++ passG cr S d (lv + 1) (clrCh lv lo hi chs) := by
        rw [passG_clr d (lv + 1) (by omega)]
        conv => lhs; unfold passG
        rw [hc]
      have eC : passCh cr (d + 1) lv chs = passCh cr d (lv + 1) (clrCh lv lo hi chs) := by
        conv => lhs; unfold passCh
        rw [hc]
      rw [eG, eC]
      by_cases hg0 : gone set lo hi = 0
      · have e : passR cr L S (d + 1) lv (xs, l, c) = passR cr L S d (lv + 1) (xs, l, c + 1) := by
          conv => lhs; unfold passR
          rw [hc]
          simp only [es, hg0, if_true]
        rw [e]
        obtain ⟨fs0, cs0, p1, p2, p3, p4⟩ := hst.parts
        rw [hg0] at p1
        have hn : ats L S lv 0 = [] := by
          unfold ats
          have : slotsOf 0 = [] := by
            rw [List.eq_nil_iff_forall_not_mem]
            intro a ha
            have := (slots_mem.1 ha).2
            rw [Nat.zero_testBit] at this; exact absurd this (by decide)
          rw [this]; rfl
        rw [hn] at p1
        have hf0 : fs0 = [] := by
          have h1 := congrArg List.length p1
          rw [show takeL [] (xs.set (1 + lv) (clr set 0 : Nat)) l = l from rfl, List.length_append, List.length_map] at h1
          exact List.length_eq_zero_iff.1 (by omega)
        have hc0 : cs0 = [] := by rw [hf0] at p2; exact List.length_eq_zero_iff.1 p2.symm
        rw [hc0] at p4
        have hw : Wst L S N xs (clrCh lv lo hi chs) := by
          refine h.congr fun a b hv => ?_
          unfold clrCh
          by_cases hp : a = lv ∧ lo ≤ b ∧ b ≤ hi
          · rw [if_pos hp]
            have h1 : (if lo ≤ b ∧ b ≤ hi then chs lv b else []) = [] := by
              have h2 := p4.symm
              rw [List.flatten_nil, List.flatMap_eq_nil_iff] at h2
              exact h2 b (List.mem_range.2 hv.2.1)
            rw [if_pos hp.2] at h1
            rw [hp.1, h1]
          · rw [if_neg hp]
        have hi' := ih (lv + 1) xs l (c + 1) (clrCh lv lo hi chs) hw (by omega)
        have hce := hi'.cost
        rw [← p4, List.flatten_nil, List.nil_append]
        exact ⟨hi'.wst, hi'.links, hi'.parts, by omega⟩
      · have e : passR cr L S (d + 1) lv (xs, l, c) = passR cr L S d (lv + 1) (takeX (ats L S lv (gone set lo hi)) (xs.set (1 + lv) (clr set (gone set lo hi) : Nat)), takeL (ats L S lv (gone set lo hi)) (xs.set (1 + lv) (clr set (gone set lo hi) : Nat)) l, c + 1 + 1 + ((slotsOf (gone set lo hi)).length : Int)) := by
          conv => lhs; unfold passR
          rw [hc]
          simp only [es, hg0, if_false]
        rw [e]
        have hi' := ih (lv + 1) _ (takeL (ats L S lv (gone set lo hi)) (xs.set (1 + lv) (clr set (gone set lo hi) : Nat)) l) (c + 1 + 1 + ((slotsOf (gone set lo hi)).length : Int)) (clrCh lv lo hi chs) hst.wst (by omega)
        obtain ⟨fs0, cs0, p1, p2, p3, p4⟩ := hst.parts
        obtain ⟨fs1, cs1, r1, r2, r3, r4⟩ := hi'.parts
        have hce := hi'.cost
        have lall : ∀ t, (passR cr L S d (lv + 1) (takeX (ats L S lv (gone set lo hi)) (xs.set (1 + lv) (clr set (gone set lo hi) : Nat)), takeL (ats L S lv (gone set lo hi)) (xs.set (1 + lv) (clr set (gone set lo hi) : Nat)) l, c + 1 + 1 + ((slotsOf (gone set lo hi)).length : Int))).1.getD (lk L S t) 0 = xs.getD (lk L S t) 0 := fun t => by rw [hi'.links, hst.links]
        refine ⟨hi'.wst, lall, ⟨fs0 ++ fs1, cs0 ++ cs1, ?_, by rw [List.length_append, List.length_append, p2, r2], fun k f ch h1 h2 => ?_, by rw [List.flatten_append, p4, r4]⟩, by omega⟩
        · rw [r1, p1, List.map_append, List.append_assoc]
        · by_cases hk : k < fs0.length
          · rw [List.getElem?_append_left hk] at h1
            rw [List.getElem?_append_left (by omega)] at h2
            obtain ⟨x1, x2⟩ := p3 k f ch h1 h2
            exact ⟨x1, x2.move (by rw [hi'.wst.good.len, h.good.len]) fun t _ => lall t⟩
          · rw [List.getElem?_append_right (by omega)] at h1
            rw [List.getElem?_append_right (by omega), ← p2] at h2
            exact r3 _ f ch h1 h2
end Go.Proofs.Ytndpkonihcebeaa.Whl
