/- Merged out of Sub, Now, Pkp, Ref5x, Rf10, Rf10b, Rf10c, Rf10d, Rf10e, Rf10f, Ply (see each head). -/
import Derived.Test.YtndpkonihcebeaaBase
import Derived.BigQuiet
import Derived.Test.YtndpkonihcebeaaRst
import Derived.Test.YtndpkonihcebeaaDig
import Derived.Test.YtndpkonihcebeaaPut
import Derived.Test.YtndpkonihcebeaaAppZ
/- A region that draws its order, whose operations read, and whose calls leave a world of a class: one walk in the text's order. -/
namespace Go.Proofs.Ytndpkonihcebeaa
open Go.RowKit
section
variable {P : Program} {S : World → Prop}
/-- A world of the class. -/
structure Cls (S : World → Prop) where
  val : World
  ok : S val
theorem wp_region_sub (S : World → Prop) {id : Nat} {Q : Exit → Act → World → Prop} {a : Act} {w : World} {l : List Oper} (hm : P.follows .mixedOrders = true) (hB : Region.lexB .any l.toArray = true) (hS : S w.drew)
    (h : wpQuiet P l.toArray (fun w' => ∃ m : Cls S, w' = m.val) (fun a' => ∀ w', (∃ m : Cls S, w' = m.val) → Q .normal a' w') l a) : (Code.region id l.toArray true).wp P Q a w :=
  wp_region_quiet (C := fun w' => ∃ m : Cls S, w' = m.val) hm hB ⟨⟨_, hS⟩, rfl⟩ (by simpa using h)
theorem Calls.sub {f : FuncId} {args : Array Value} {m : Cls S} {v : Value} (h : Calls P f args m.val fun e w' => e = .returned v ∧ Made m.val w') (hS : ∀ w', S m.val → Made m.val w' → S w') :
    Calls P f args m.val fun e w'' => e = .returned v ∧ ∃ m' : Cls S, w'' = m'.val :=
  h.mono fun _ w' ⟨he, hm⟩ => ⟨he, ⟨w', hS w' m.ok hm⟩, rfl⟩
theorem made_of_drewN {w w' : World} (h : ∃ n, w' = w.drewN n) : Made w w' := by
  obtain ⟨n, rfl⟩ := h
  exact Made.drewN w n
theorem made_of_same {w w' : World} (h : w = w') : Made w w' := h ▸ Made.refl w
/-- What lies in these blocks, and that nothing that was there has turned. -/
structure Kept (w : World) (l : List (Nat × Obj)) (x : World) : Prop where
  all : ∀ (i b : Nat) (o : Obj), l[i]? = some (b, o) → x.heap[b]? = some o
  md : Made w x
theorem Kept.at {w : World} {l : List (Nat × Obj)} {x : World} (h : Kept w l x) (i : Nat) {b : Nat} {o : Obj} (hi : l[i]? = some (b, o)) : x.heap[b]? = some o := h.all i b o hi
theorem Kept.later {w : World} {l : List (Nat × Obj)} {x : World} (h : Kept w l x) {y : World} (m : Made x y) : Kept w l y :=
  ⟨fun i b o hi => (m.block _ (Array.getElem?_eq_some_iff.1 (h.all i b o hi)).1).trans (h.all i b o hi), Made.trans h.md m⟩
theorem Kept.drew {w : World} {l : List (Nat × Obj)} {x : World} (h : Kept w l x) : Kept w l x.drew := ⟨fun i b o hi => h.all i b o hi, below_drewN h.md 1⟩
theorem Kept.nil {w x : World} (h : Made w x) : Kept w [] x := ⟨fun i b o hi => by simp at hi, h⟩
theorem Kept.cons {w x : World} {l : List (Nat × Obj)} {b : Nat} {o : Obj} (h : x.heap[b]? = some o) (k : Kept w l x) : Kept w ((b, o) :: l) x :=
  ⟨fun i c u hi => by
    cases i with
    | zero => simp at hi; obtain ⟨rfl, rfl⟩ := hi; exact h
    | succ i => exact k.all i c u (by simpa using hi), k.md⟩
end
end Go.Proofs.Ytndpkonihcebeaa

/- Package wheel, in plain words: what stands where as time goes by. -/
namespace Go.Proofs.Ytndpkonihcebeaa.Whl
open Go.RowKit Go.Proofs.Ytndpkonihcebeaa Go.Proofs.Ytndpkonihcebeaa.Cell Go.Proofs.Ytndpkonihcebeaa.Seq Go.Proofs.Ytndpkonihcebeaa.Num Go.Proofs.Ytndpkonihcebeaa.SetN Go.Proofs.Ytndpkonihcebeaa.Dig Go.Proofs.Ytndpkonihcebeaa.Bits
set_option linter.unusedVariables false
set_option linter.unusedSimpArgs false
variable {L S B N : Nat}

theorem dig_nat (t : Int) {k : Nat} (b : Int) (hk : k ≤ 64) : dig t (k : Int) b = tm t / 2 ^ (wd b * k) % 2 ^ wd b := by
  unfold dig sh
  rw [lv_nat k hk, Nat.mul_comm k]
/-- Where what is due later stands, in plain numbers. -/
def Stand (w n d L lv sl : Nat) : Prop := n < d ∧ ∃ i, 1 ≤ i ∧ i ≤ 32 ∧ Num.Top w n d i ∧ ((lv = i - 1 ∧ lv < L ∧ sl = d / 2 ^ (w * lv) % 2 ^ w) ∨ (lv = L ∧ sl = 0 ∧ L ≤ i - 1))
theorem Placed.stand {now d : Int} {lv sl : Nat} (h : Placed now d L B S lv sl) : Stand (wd (B : Int)) (tm now) (tm d) L lv sl := by
  have hp := h.at_
  unfold placeOf at hp
  by_cases hl : tm d ≤ tm now
  · rw [if_pos hl] at hp
    simp only [Prod.mk.injEq] at hp
    omega
  · rw [if_neg hl] at hp
    obtain ⟨i, hi, e⟩ := topOf_spec now d B
    have h32 := hi.le (wd_bd (B : Int)).1 (tm_lt now) (tm_lt d)
    have hi1 : 1 ≤ i := by
      rcases Nat.eq_zero_or_pos i with h0 | h0
      · have := hi.zero_iff.1 h0; omega
      · exact h0
    refine ⟨by omega, i, hi1, h32, hi, ?_⟩
    by_cases ht : topOf now d B < (L : Int)
    · rw [if_pos ht] at hp
      simp only [Prod.mk.injEq] at hp
      have e2 : lv = i - 1 := by omega
      have e3 : topOf now d B = (lv : Int) := by omega
      rw [e3, dig_nat d (B : Int) (by omega)] at hp
      exact Or.inl ⟨e2, by omega, by omega⟩
    · rw [if_neg ht] at hp
      simp only [Prod.mk.injEq] at hp
      exact Or.inr ⟨by omega, by omega, by omega⟩
theorem Placed.of_stand {now d : Int} {lv sl : Nat} (h : Stand (wd (B : Int)) (tm now) (tm d) L lv sl) (hl : lv ≤ L) (hs : sl < S) : Placed now d L B S lv sl := by
  refine ⟨?_, hl, hs⟩
  obtain ⟨hlt, i, hi1, h32, hi, hc⟩ := h
  have e := topOf_eq (a := now) (c := d) (b := (B : Int)) hi
  unfold placeOf
  rw [if_neg (by omega)]
  rcases hc with ⟨h1, h2, h3⟩ | ⟨h1, h2, h3⟩
  · rw [if_pos (by omega)]
    have e3 : topOf now d B = (lv : Int) := by omega
    rw [e3, dig_nat d (B : Int) (by omega), ← h3]
  · rw [if_neg (by omega), h1, h2]; rfl
/-- Which slots are passed, in plain numbers. -/
structure CrP (w n m : Nat) (cr : Nat → Option (Nat × Nat)) : Prop where
  still : ∀ l, m ≤ n → cr l = none
  above : ∀ l j, Num.Top w n m j → l ≤ 64 → j ≤ l → cr l = none
  all : ∀ l j, n < m → Num.Top w n m j → l ≤ 64 → l + 1 < j → cr l = some (0, 2 ^ w - 1)
  edge : ∀ l j, n < m → Num.Top w n m j → l ≤ 64 → l + 1 = j → cr l = some (n / 2 ^ (w * l) % 2 ^ w + 1, m / 2 ^ (w * l) % 2 ^ w)
theorem crOf_p (fr to' : Int) (B : Nat) : CrP (wd (B : Int)) (tm fr) (tm to') (crOf fr to' B) := by
  refine ⟨fun l h => ?_, fun l j hj hl h => ?_, fun l j hlt hj hl h => ?_, fun l j hlt hj hl h => ?_⟩
  · unfold crOf
    rw [cross_no (Or.inl h)]; rfl
  · unfold crOf
    have e := topOf_eq (a := fr) (c := to') (b := (B : Int)) hj
    rw [cross_no (Or.inr (by omega))]; rfl
  · unfold crOf
    have e := topOf_eq (a := fr) (c := to') (b := (B : Int)) hj
    rw [cross_all (by omega) (by omega)]
    have := Nat.two_pow_pos (wd (B : Int))
    rw [if_pos rfl]
    congr 2
    show (((2 ^ wd (B : Int) : Nat) : Int) - 1).toNat = 2 ^ wd (B : Int) - 1
    omega
  · unfold crOf
    have e := topOf_eq (a := fr) (c := to') (b := (B : Int)) hj
    rw [cross_edge (by omega) (by omega), if_pos rfl, dig_nat fr _ hl, dig_nat to' _ hl]
    congr 2
theorem Top.ne_of_digit {w a b k : Nat} (h : a / 2 ^ (w * k) % 2 ^ w ≠ b / 2 ^ (w * k) % 2 ^ w) : a / 2 ^ (w * k) ≠ b / 2 ^ (w * k) := fun e => h (by rw [e])
/-- What isn't passed isn't due, and stands at its place as seen from the later time. -/
theorem Stand.stay {w n m d lv sl : Nat} {cr : Nat → Option (Nat × Nat)} (hcr : CrP w n m cr) (hw : 1 ≤ w) (hm : m < 4294967296) (hn : n < 4294967296) (hL : L ≤ 64) (hs : Stand w n d L lv sl) (hnm : n ≤ m) (hps : ¬ ps cr L 0 lv sl) : Stand w m d L lv sl := by
  obtain ⟨hlt, i, hi1, h32, hi, hc⟩ := hs
  obtain ⟨j, hj⟩ := Num.Top.exists hw n m
  have hj32 := hj.le hw hn hm
  -- the later time parts from d at the same digit
  have same : j ≤ i - 1 → Stand w m d L lv sl := fun h => by
    have t1 : m / 2 ^ (w * i) = d / 2 ^ (w * i) := by rw [← hi.eq]; exact (eq_up hj.eq (by omega)).symm
    have e2 : m / 2 ^ (w * (i - 1)) = n / 2 ^ (w * (i - 1)) := (eq_up hj.eq h).symm
    have ht : Num.Top w m d i := Num.Top.of t1 fun _ => by rw [e2]; exact hi.ne (i - 1) (by omega)
    refine ⟨?_, i, hi1, h32, ht, hc⟩
    have ht' : Num.Top w m d (i - 1 + 1) := by rw [show i - 1 + 1 = i by omega]; exact ht
    have hi' : Num.Top w n d (i - 1 + 1) := by rw [show i - 1 + 1 = i by omega]; exact hi
    rw [ht'.order, e2, ← hi'.order]; exact hlt
  rcases Nat.lt_or_ge n m with hlt2 | hge
  · by_cases hji : j ≤ i - 1
    · exact same hji
    · -- the later time parts from n at d's digit, or above
      have some_ : ∀ l, l < j → l ≤ 64 → cr l ≠ none := fun l h1 h2 => by
        by_cases h3 : l + 1 < j
        · rw [hcr.all l j hlt2 hj h2 h3]; simp
        · rw [hcr.edge l j hlt2 hj h2 (by omega)]; simp
      rcases hc with ⟨h1, h2, h3⟩ | ⟨h1, h2, h3⟩
      · by_cases h4 : lv + 1 < j
        · exfalso
          apply hps
          refine ⟨fun l _ hl => some_ l (by omega) (by omega), 0, 2 ^ w - 1, hcr.all lv j hlt2 hj (by omega) h4, Or.inr ⟨Nat.zero_le _, ?_⟩⟩
          have := Nat.mod_lt (d / 2 ^ (w * lv)) (Nat.two_pow_pos w)
          omega
        · have hjl : lv + 1 = j := by omega
          have hil : i = lv + 1 := by omega
          rw [hil] at hi
          rw [← hjl] at hj
          have o1 := hi.order.1 hlt
          by_cases h5 : d / 2 ^ (w * lv) % 2 ^ w ≤ m / 2 ^ (w * lv) % 2 ^ w
          · exfalso
            apply hps
            refine ⟨fun l _ hl => some_ l (by omega) (by omega), _, _, hcr.edge lv (lv + 1) hlt2 hj (by omega) rfl, Or.inr ⟨by omega, by omega⟩⟩
          · have ht : Num.Top w m d (lv + 1) := Num.Top.of (by rw [← hi.eq]; exact hj.eq.symm) fun _ => by
              show m / 2 ^ (w * lv) ≠ d / 2 ^ (w * lv)
              exact Top.ne_of_digit (by omega)
            exact ⟨ht.order.2 (by omega), lv + 1, by omega, by omega, ht, Or.inl ⟨by omega, h2, h3⟩⟩
      · exfalso
        apply hps
        have hLj : L < j := by omega
        refine ⟨fun l _ hl => some_ l (by omega) (by omega), ?_⟩
        by_cases h4 : lv + 1 < j
        · exact ⟨_, _, hcr.all lv j hlt2 hj (by omega) h4, Or.inl h1⟩
        · exact ⟨_, _, hcr.edge lv j hlt2 hj (by omega) (by omega), Or.inl h1⟩
  · obtain rfl : n = m := by omega
    exact ⟨hlt, i, hi1, h32, hi, hc⟩
theorem Placed.stay {now d to' : Int} {lv sl : Nat} (h : Placed now d L B S lv sl) (hL : L ≤ 64) (hnt : tm now ≤ tm to') (hps : ¬ ps (crOf now to' B) L 0 lv sl) : tm to' < tm d ∧ Placed to' d L B S lv sl := by
  have hs := h.stand.stay (crOf_p now to' B) (wd_bd (B : Int)).1 (tm_lt to') (tm_lt now) hL hnt hps
  exact ⟨hs.1, Placed.of_stand hs h.l h.s⟩
end Go.Proofs.Ytndpkonihcebeaa.Whl

/- Package wheel, in plain words: what Peek tells of lists. -/
namespace Go.Proofs.Ytndpkonihcebeaa.Whl
open Go.RowKit Go.Proofs.Ytndpkonihcebeaa Go.Proofs.Ytndpkonihcebeaa.Cell Go.Proofs.Ytndpkonihcebeaa.Seq Go.Proofs.Ytndpkonihcebeaa.Num Go.Proofs.Ytndpkonihcebeaa.SetN Go.Proofs.Ytndpkonihcebeaa.Dig Go.Proofs.Ytndpkonihcebeaa.Bits
set_option linter.unusedVariables false
set_option linter.unusedSimpArgs false
variable {L S B N : Nat}

theorem nextV_cases (s a : Nat) (ha : a ≤ 64) : (∃ n : Nat, nextV s a = (n : Int) ∧ a ≤ n ∧ n < 64 ∧ s.testBit n = true ∧ ∀ i, a ≤ i → i < n → s.testBit i = false) ∨ (nextV s a = -1 ∧ ∀ i, a ≤ i → i < 64 → s.testBit i = false) := by
  rcases fromS_cases s (64 - a) a (by omega) with ⟨n, h1, h2, h3, h4, h5⟩ | ⟨h', h''⟩
  · exact Or.inl ⟨n, by unfold nextV; rw [h5], h1, h2, h3, h4⟩
  · exact Or.inr ⟨by unfold nextV; rw [h''], h'⟩
/-- The next list that holds something. -/
theorem Wst.next {xs : List Int} {chs : Nat → Nat → List Nat} (h : Wst L S N xs chs) {lv a : Nat} (hl : lv < L) (ha : a ≤ 64) :
    (∃ n : Nat, nextV (xs.getD (1 + lv) 0).toNat a = (n : Int) ∧ a ≤ n ∧ n < S ∧ chs lv n ≠ [] ∧ ∀ i, a ≤ i → i < n → chs lv i = []) ∨ (nextV (xs.getD (1 + lv) 0).toNat a = -1 ∧ ∀ i, a ≤ i → i < S → chs lv i = []) := by
  obtain ⟨set, hs, hx⟩ := h.good.maps lv hl
  have hS := h.s64
  have hb : ∀ i, i < S → (set.testBit i = true ↔ chs lv i ≠ []) := fun i hi => by
    obtain ⟨set', hx', hb'⟩ := h.mp lv i hl hi
    have : set' = set := by rw [hx] at hx'; omega
    subst this; exact hb'
  have hf : ∀ i, i < S → set.testBit i = false → chs lv i = [] := fun i hi h0 => by
    apply Classical.byContradiction
    intro c
    rw [(hb i hi).2 c] at h0
    cases h0
  rw [hx, Int.toNat_natCast]
  rcases nextV_cases set a ha with ⟨n, e, h1, h2, h3, h4⟩ | ⟨e, h4⟩
  · have hn : n < S := by
      apply Nat.lt_of_not_le
      intro c
      have := Nat.testBit_lt_two_pow (Nat.lt_of_lt_of_le hs (Nat.pow_le_pow_right (by decide) c))
      rw [this] at h3; cases h3
    exact Or.inl ⟨n, e, h1, hn, (hb n hn).1 h3, fun i g1 g2 => hf i (by omega) (h4 i g1 g2)⟩
  · exact Or.inr ⟨e, fun i g1 g2 => hf i g2 (h4 i g1 (by omega))⟩
theorem Wst.over {xs : List Int} {chs : Nat → Nat → List Nat} (h : Wst L S N xs chs) : xs.getD 0 0 = 0 ↔ chs L 0 = [] := by
  obtain ⟨h0, e, hc⟩ := h.chn L 0 ⟨Nat.le_refl _, h.s1, fun _ => rfl⟩
  have ha : at_ L S L 0 = 0 := by unfold at_; rw [if_pos (Nat.le_refl _)]
  rw [ha] at e
  rw [e, ← hc.nil_iff]; omega
/-- Where nothing is, Peek tells none. -/
theorem peek_none {xs : List Int} {chs : Nat → Nat → List Nat} (h : Wst L S N xs chs) (now : Int) (hn : ∀ a b, Val L S a b → chs a b = []) : ∀ d lv, lv + d = L → (peekR now L B xs d lv).1 = -1
  | 0, lv, _ => by
    unfold peekR
    rw [if_pos (h.over.2 (hn L 0 ⟨Nat.le_refl _, h.s1, fun _ => rfl⟩))]
  | d + 1, lv, hd => by
    unfold peekR
    rcases h.next (lv := lv) (a := dig now lv B + 1) (by omega) (dig_le _ _ _) with ⟨n, e, h1, h2, h3, _⟩ | ⟨e, _⟩
    · exact absurd (hn lv n ⟨by omega, h2, fun c => by omega⟩) h3
    · rw [if_pos (by omega)]
      exact peek_none h now hn d (lv + 1) (by omega)
theorem Stand.above {w n d lv sl l : Nat} (h : Stand w n d L lv sl) (hl : l + 1 ≤ lv) : n / 2 ^ (w * (l + 1)) < d / 2 ^ (w * (l + 1)) := by
  obtain ⟨hlt, i, hi1, h32, hi, hc⟩ := h
  have hne := hi.ne (l + 1) (by omega)
  have := Nat.div_le_div_right (c := 2 ^ (w * (l + 1))) (Nat.le_of_lt hlt)
  omega
theorem Stand.here {w n d lv sl : Nat} (h : Stand w n d L lv sl) (hl : lv < L) : n / 2 ^ (w * (lv + 1)) = d / 2 ^ (w * (lv + 1)) ∧ sl = d / 2 ^ (w * lv) % 2 ^ w ∧ n / 2 ^ (w * lv) % 2 ^ w < sl := by
  obtain ⟨hlt, i, hi1, h32, hi, hc⟩ := h
  rcases hc with ⟨h1, h2, h3⟩ | ⟨h1, h2, h3⟩
  · have e : i = lv + 1 := by omega
    rw [e] at hi
    refine ⟨hi.eq, h3, ?_⟩
    rw [h3]; exact hi.order.1 hlt
  · omega
/-- What stands above a level, or there in a slot at or behind another one, is due no earlier than that slot. -/
theorem Stand.least {w n d lv sl l k : Nat} (h : Stand w n d L lv sl) (hl : l < L) (hk : k < 2 ^ w) (hc : l < lv ∨ (lv = l ∧ k ≤ sl)) : n / 2 ^ (w * (l + 1)) * 2 ^ (w * (l + 1)) + k * 2 ^ (w * l) ≤ d := by
  have e : 2 ^ (w * (l + 1)) = 2 ^ w * 2 ^ (w * l) := by rw [← Nat.pow_add]; congr 1; rw [Nat.mul_add]; omega
  rcases hc with hc | ⟨rfl, hc⟩
  · have h1 := h.above (l := l) (by omega)
    have h2 : (n / 2 ^ (w * (l + 1)) + 1) * 2 ^ (w * (l + 1)) ≤ d := Nat.le_trans (Nat.mul_le_mul_right _ h1) (Nat.div_mul_le_self _ _)
    have h3 : k * 2 ^ (w * l) ≤ 2 ^ (w * (l + 1)) := by rw [e]; exact Nat.mul_le_mul_right _ (by omega)
    rw [Nat.add_mul, Nat.one_mul] at h2
    omega
  · obtain ⟨h1, h2, h3⟩ := h.here hl
    have h4 : d / 2 ^ (w * lv) * 2 ^ (w * lv) ≤ d := Nat.div_mul_le_self _ _
    rw [split w d lv, ← h1, ← h2, Nat.add_mul, Nat.mul_assoc, ← e] at h4
    have h5 : k * 2 ^ (w * lv) ≤ sl * 2 ^ (w * lv) := Nat.mul_le_mul_right _ hc
    omega
theorem flo_nat (t : Int) {k : Nat} (b : Int) (hk : k ≤ 64) : flo t (k : Int) b = tm t / 2 ^ (wd b * k) * 2 ^ (wd b * k) := by
  unfold flo sh
  rw [lv_nat k hk, Nat.mul_comm k]
/-- Nothing is due ahead of what Peek tells. -/
theorem peek_le {xs : List Int} {chs : Nat → Nat → List Nat} (h : Wst L S N xs chs) {now : Int} (hL : L ≤ 63) (hB1 : 1 ≤ B) (hB6 : B ≤ 6) (hS : S = 2 ^ B) {t a b : Nat} {due : Int} (hv : Val L S a b) (ht : t ∈ chs a b) (hp : Placed now due L B S a b)
    (hold : ∀ a b, Val L S a b → chs a b ≠ [] → ∃ d, Placed now d L B S a b) : ∀ d lv, lv + d = L → lv ≤ a → (peekR now L B xs d lv).1 ≤ (tm due : Int)
  | 0, lv, hd, hla => by
    obtain rfl : lv = L := by omega
    have ea : a = lv := by have := hv.1; omega
    subst ea
    have eb := hv.2.2 rfl
    subst eb
    unfold peekR
    rw [if_neg (fun c => by rw [h.over.1 c] at ht; simp at ht)]
    have hs := hp.stand
    have hw := wd_nat hB1 hB6
    rw [hw] at hs
    rw [flo_nat now (B : Int) (by omega), hw]
    obtain ⟨hlt, i, hi1, h32, hi, hc⟩ := hs
    have e3 : a ≤ i - 1 := by rcases hc with ⟨h1, h2, h3⟩ | ⟨h1, h2, h3⟩ <;> omega
    have hne := hi.ne a (by omega)
    have h4 := Nat.div_le_div_right (c := 2 ^ (B * a)) (Nat.le_of_lt hlt)
    have h5 : (tm now / 2 ^ (B * a) + 1) * 2 ^ (B * a) ≤ tm due := Nat.le_trans (Nat.mul_le_mul_right _ (by omega)) (Nat.div_mul_le_self _ _)
    rw [Nat.add_mul, Nat.one_mul] at h5
    rw [Nat.mul_comm a B]
    omega
  | d + 1, lv, hd, hla => by
    have hw := wd_nat hB1 hB6
    have hs := hp.stand
    rw [hw] at hs
    unfold peekR
    rcases h.next (lv := lv) (a := dig now lv B + 1) (by omega) (dig_le _ _ _) with ⟨n, e, h1, h2, h3, h4⟩ | ⟨e, h4⟩
    · rw [if_neg (by omega), e]
      have e2 : ((lv : Int) + 1) = ((lv + 1 : Nat) : Int) := by omega
      rw [e2, flo_nat now (B : Int) (by omega), hw]
      have hc : lv < a ∨ (a = lv ∧ n ≤ b) := by
        by_cases hx : lv < a
        · exact Or.inl hx
        · obtain rfl : a = lv := by omega
          refine Or.inr ⟨rfl, ?_⟩
          have hh := (hs.here (by omega)).2.2
          rw [dig_nat now (B : Int) (by omega), hw] at h4
          apply Nat.le_of_not_lt
          intro c
          rw [h4 b (by omega) c] at ht
          simp at ht
      have hle := hs.least (l := lv) (k := n) (by omega) (by omega) hc
      rw [Nat.mul_comm lv B]
      simp only
      have e5 : ((n : Int)) * ((2 ^ (B * lv) : Nat) : Int) = ((n * 2 ^ (B * lv) : Nat) : Int) := by push_cast; rfl
      rw [e5]
      omega
    · rw [if_pos (by omega)]
      refine peek_le h hL hB1 hB6 hS hv ht hp hold d (lv + 1) (by omega) ?_
      by_cases hx : lv < a
      · omega
      · obtain rfl : a = lv := by omega
        exfalso
        have hh := (hs.here (by omega)).2.2
        rw [dig_nat now (B : Int) (by omega), hw] at h4
        rw [h4 b (by omega) hv.2.1] at ht
        simp at ht
end Go.Proofs.Ytndpkonihcebeaa.Whl

/- Package knellref05, walked; Cross and Place, too. -/
namespace Go.Proofs.Ytndpkonihcebeaa.Ref5
open Go.RowKit Go.Proofs.Ytndpkonihcebeaa Go.Proofs.Ytndpkonihcebeaa.Num Go.Proofs.Ytndpkonihcebeaa.Dig
set_option linter.unusedVariables false
set_option linter.unusedSimpArgs false

set_option maxRecDepth 100000 in
set_option maxHeartbeats 400000 in
theorem Time_c (t : Int) (w : World) : Calls Try.prog 104 #[.int .i64 t] w fun e w' => e = .returned (.int .i64 (tm t)) ∧ w = w' := by
  go_enter Try.func104, Try.ntmps104
  by_cases h1 : t < 0
  · have hr : Hid ((0 : Int) = tm t) := tm_lo t h1
    go_wp2; go_ret; exact ⟨ret_of hr.out, rfl⟩
  · by_cases h2 : 4294967295 < t
    · have hr : Hid ((4294967295 : Int) = tm t) := tm_if t (by rw [if_neg h1]; exact h2)
      go_wp2; go_ret; exact ⟨ret_of hr.out, rfl⟩
    · have hr : Hid (t = (tm t : Int)) := tm_mid t (by omega) (by rw [if_neg h1]; omega)
      go_wp2; go_ret; exact ⟨ret_of hr.out, rfl⟩

set_option maxRecDepth 100000 in
set_option maxHeartbeats 400000 in
theorem Size_c (b : Int) (w : World) : Calls Try.prog 74 #[.int .i64 b] w fun e w' => e = .returned (.int .i64 ((2 ^ wd b : Nat) : Int)) ∧ w = w' := by
  have hb := wd_bd b
  have hwd : Hid (wd b = if b < 1 then 1 else if 6 < b then 6 else b.toNat) := rfl
  go_enter Try.func74, Try.ntmps74
  go_wp2
  go_loop [3, 4] (fun n i => ∃ k : Nat, 1 ≤ k ∧ k ≤ wd b ∧ i = .int .i64 k ∧ n = .int .i64 ((2 ^ k : Nat) : Int)) (fun _ i => (6 - intOf i).toNat)
  case atStart => exact ⟨1, by omega, hb.1, rfl, rfl⟩
  case round =>
    obtain ⟨k, h1, hk, rfl, rfl⟩ := hrel
    by_cases hlt : k < wd b
    · have h2 : (k : Int) < b := by have := hwd.out; split at this <;> (try split at this) <;> omega
      have hp : 2 ^ k ≤ 64 := Nat.le_trans (Nat.pow_le_pow_right (by decide) (by omega : k ≤ 6)) (by decide)
      have h6 : k < 6 := by omega
      have e : Hid (((2 ^ (k + 1) : Nat) : Int) = ((2 ^ k : Nat) : Int) * 2) := by show ((2 ^ (k + 1) : Nat) : Int) = _; rw [Nat.pow_succ]; simp
      generalize 2 ^ k = p at hp e ⊢
      go_wp2
      go_round
      case rel => exact ⟨k + 1, by omega, by omega, by go_num, by rw [e.out]⟩
      case measure => simp [intOf]; omega
    · obtain rfl : k = wd b := by omega
      generalize hq : wd b = q at *
      have hq' := Lib.hid hq; clear hq
      by_cases h2 : (q : Int) < b
      · have h6 : ¬ (q : Int) < 6 := by have := hwd.out; split at this <;> (try split at this) <;> omega
        go_wp2
        go_ret
        exact ⟨ret_of (by rw [hq'.out]; try simp), rfl⟩
      · go_wp2
        go_ret
        exact ⟨ret_of (by rw [hq'.out]; try simp), rfl⟩

/-- The digit at a place. -/
def dg (t b : Int) (i : Nat) : Nat := tm t / 2 ^ (wd b * i) % 2 ^ wd b
/-- The row of digits, as far as they are written. -/
def upto (t b : Int) (k : Nat) : Array Value := ((List.range 40).map fun i => Value.int .i64 (if i < k then (dg t b i : Int) else 0)).toArray
theorem upto_size (t b : Int) (k : Nat) : (upto t b k).size = 40 := by simp [upto]
theorem upto_get (t b : Int) (k i : Nat) (h : i < 40) : (upto t b k)[i]? = some (.int .i64 (if i < k then (dg t b i : Int) else 0)) := by
  simp [upto, h]
theorem upto_zero (t b : Int) : upto t b 0 = ((List.range 40).map fun _ => Value.int .i64 0).toArray := by simp [upto]
theorem upto_succ (t b : Int) (k : Nat) (_h : k < 40) : (upto t b k).setIfInBounds k (.int .i64 (dg t b k)) = upto t b (k + 1) := by
  apply Array.ext_getElem?
  intro i
  by_cases hi : i < 40
  · rw [Array.getElem?_setIfInBounds, upto_get _ _ _ _ hi, upto_get _ _ _ _ hi]
    by_cases e : k = i
    · subst e; simp [upto_size, hi]
    · rw [if_neg e]
      by_cases h1 : i < k
      · rw [if_pos h1, if_pos (by omega)]
      · rw [if_neg h1, if_neg (by omega)]
  · rw [Array.getElem?_eq_none (by simp [upto_size]; omega), Array.getElem?_eq_none (by simp [upto_size]; omega)]

theorem quo_in (q p : Nat) (hq : q < 4294967296) : wrap64 ((q : Int) / (p : Int)) = ((q / p : Nat) : Int) := by
  have h := Nat.div_le_self q p
  rw [show (q : Int) / (p : Int) = ((q / p : Nat) : Int) by simp]
  generalize q / p = d at h ⊢
  exact IntWalk.wrap64_in _ (by omega)
def Z40 : Array Value := ((List.range 40).map fun _ => Value.int .i64 0).toArray
theorem Z40_one : Z40.all (·.oneCell') = true := by kernel_rfl
theorem Z40_size : Z40.size = 40 := by kernel_rfl
theorem upto_one (t b : Int) (k : Nat) : (upto t b k).all (·.oneCell') = true := by
  rw [Array.all_eq_true_iff_forall_mem]
  intro x hx
  simp only [upto, List.mem_toArray, List.mem_map] at hx
  obtain ⟨i, _, rfl⟩ := hx
  rfl

set_option maxRecDepth 100000 in
set_option maxHeartbeats 1000000 in
theorem Digits_c (t b : Int) (w : World) : Calls Try.prog 109 #[.int .i64 t, .int .i64 b] w fun e w' => e = .returned (.agg (upto t b 40)) ∧ Made w w' := by
  have hb := wd_bd b
  have ht := tm_lt t
  have hal : ∀ w : World, (Instr.alloc 167 true (.tuple #[])).run Try.prog w = .ok (.pointer (some ⟨w.heap.size, 0, none⟩)) (w.alloc (.cells Z40 167)) := fun w => by kernel_rfl
  have hbl : Try.prog.built 167 [] = some Z40 := by kernel_rfl
  have hsz : (Try.prog.info? 167).map (·.size) = some Z40.size := by kernel_rfl
  have hZ : upto t b 0 = Z40 := by simp [upto, Z40]
  have HAL := Lib.hid hal; have HBL := Lib.hid hbl; have HSZ := Lib.hid hsz; have HZ := Lib.hid hZ
  clear hal hbl hsz hZ
  go_enter Try.func109, Try.ntmps109
  go_wp2_with (first | (go_at_call 104; refine (Time_c _ _).mono ?_; rintro e w' ⟨rfl, rfl⟩) | (refine wpList_alloc_zero rfl 167 rfl Z40 HAL.out ?_) | (refine wpList_build_zero rfl 167 rfl Z40 HBL.out ?_) | (refine wpList_store_row rfl 167 (.tmp 5) (.tmp 8) rfl (w.heap.size + 1) Z40 (by simp [Act.eval, Act.put]) (by simp [Act.eval, Act.put]) 167 Z40 (heap_alloc2_new _ _ _) HSZ.out rfl Z40_one ?_))
  have hw0 : ((w.alloc (.cells Z40 167)).alloc (.cells Z40 167)).setRow (w.heap.size + 1) Z40 = (w.alloc (.cells Z40 167)).alloc (.cells Z40 167) := by
    have := World.setRow_alloc_new (w.alloc (.cells Z40 167)) Z40 Z40 167
    rwa [show (w.alloc (.cells Z40 167)).heap.size = w.heap.size + 1 by simp] at this
  rw [hw0]
  clear hw0
  have hp := Nat.le_trans (Nat.pow_le_pow_right (n := 2) (by decide) hb.2) (show 2 ^ 6 ≤ 64 by decide)
  have hp1 := Nat.two_pow_pos (wd b)
  go_loopw [6, 7] (fun n i wr => ∃ (k q : Nat), k ≤ 40 ∧ i = .int .i64 k ∧ n = .int .i64 q ∧ q < 4294967296 ∧ Hid (q = tm t / 2 ^ (wd b * k)) ∧ Below w.heap.size w wr ∧ w.heap.size + 1 < wr.heap.size ∧
      Hid (wr.heap[w.heap.size]? = some (.cells Z40 167 (0, 0))) ∧ Hid (wr.heap[w.heap.size + 1]? = some (.cells (upto t b k) 167 (0, 0))))
    (fun _ i _ => (40 - intOf i).toNat)
  case atStart =>
    refine ⟨0, tm t, by omega, rfl, rfl, ht, ?_, ((Below.refl _ w).alloc (Nat.le_refl _) _).alloc (by simp) _, by simp, heap_alloc2_old _ _ _, ?_⟩
    · show _ = _; simp
    · show _ = _; rw [HZ.out]; exact heap_alloc2_new _ _ _
  case round =>
    obtain ⟨k, q, hk, rfl, rfl, hq, HQ, hB, hsz, H1, H2⟩ := hrel
    by_cases hlt : k < 40
    · have hc : wr.cell? ⟨w.heap.size + 1, k, none⟩ = some (.int .i64 0) := by
        rw [cell_of_row _ _ _ _ _ _ H2.out, upto_get _ _ _ _ hlt]; simp
      have hf : wr.frozen? ⟨w.heap.size + 1, k, none⟩ = false := frozen_of_row _ _ _ _ _ H2.out
      obtain ⟨p, hpe⟩ : ∃ p, p = 2 ^ wd b := ⟨_, rfl⟩
      have HP := Lib.hid hpe
      rw [← hpe] at hp hp1
      have hsz' : ∀ w : World, Calls Try.prog 74 #[.int .i64 b] w fun e w' => e = .returned (.int .i64 (p : Int)) ∧ w = w' := fun w => by rw [hpe]; exact Size_c b w
      have HS := Lib.hid hsz'
      clear hsz' hpe
      go_wp2_with (first | (go_at_call 74; refine (HS.out _).mono ?_; rintro e w' ⟨rfl, rfl⟩))
      go_roundw
      case rel =>
        have hdiv : q / p = tm t / 2 ^ (wd b * (k + 1)) := by rw [HQ.out, HP.out, Nat.div_div_eq_div_mul, ← Nat.pow_add, Nat.mul_add, Nat.mul_one]
        refine ⟨k + 1, q / p, by omega, by go_num, by rw [quo_in q p hq], Nat.lt_of_le_of_lt (Nat.div_le_self _ _) hq, hdiv, hB.setCell (by simp) _, by simpa [World.setCell] using hsz, ?_, ?_⟩
        · show _ = _
          rw [heap_setCell_other _ _ _ _ (by simp)]; exact H1.out
        · show _ = _
          rw [heap_setCell_same _ _ _ _ _ _ H2.out, ← upto_succ t b k hlt]
          unfold dg
          rw [← HQ.out, ← HP.out]
          simp
      case measure => simp [intOf]; omega
    · obtain rfl : k = 40 := by omega
      go_wp2_with (first | (refine wpList_load_row rfl 167 (.tmp 5) rfl (w.heap.size + 1) (by simp [Act.eval, Act.put]) 167 (upto t b 40) (0, 0) _ H2.out Try.underlying167 rfl (by rw [HSZ.out, upto_size, Z40_size]) ?_) | (refine wpList_store_row rfl 167 (.tmp 4) (.tmp 25) rfl w.heap.size (upto t b 40) (by simp [Act.eval, Act.put]) (by simp [Act.eval, Act.put]) 167 Z40 H1.out (by rw [HSZ.out, upto_size, Z40_size]) (by rw [upto_size, Z40_size]) (upto_one _ _ _) ?_))
      exact bodyPost_ret (v := .agg (upto t b 40)) (results_cell_row rfl _ _ w.heap.size 167 (upto t b 40) (0, 0) _ (by simp [Act.put]) (heap_setRow_same _ _ _ _ _ _ H1.out) Try.underlying167 rfl (by rw [HSZ.out, upto_size, Z40_size])) rfl
        ⟨rfl, Go.Proofs.Ytndpkonihcebeaa.Below.setRow hB (Nat.le_refl _) _⟩

theorem dg_dig (t l b : Int) (_h : lv l < 40) : dg t b (lv l) = dig t l b := by
  unfold dg dig sh; rw [Nat.mul_comm]
theorem dig_far (t l b : Int) (h : 39 < l) : dig t l b = 0 := by
  have h1 := tm_lt t
  have h2 := wd_bd b
  have h3 : 40 ≤ lv l := by unfold lv; split <;> (try split) <;> omega
  have h4 : 40 ≤ sh l b := Nat.le_trans h3 (Nat.le_mul_of_pos_right _ h2.1)
  unfold dig
  rw [Nat.div_eq_of_lt (Nat.lt_of_lt_of_le (show tm t < 2 ^ 40 by omega) (Nat.pow_le_pow_right (by decide) h4))]
  simp
theorem lv_neg (l : Int) (h : l < 0) : lv l = 0 := by unfold lv; rw [if_pos h]
theorem lv_pos (l : Int) (h : 0 ≤ l) (h' : l ≤ 39) : lv l = l.toNat := by unfold lv; rw [if_neg (by omega), if_neg (by omega)]
theorem index40 (cs : Array Value) (i : Int) (v : Value) (h0 : 0 ≤ i) (h1 : i < 40) (hv : cs[i.toNat]? = some v) (w : World) :
    (Instr.index 167 (.agg cs) (.int .i64 i)).run Try.prog w = .ok v w :=
  run_index_agg Try.underlying167 Try.underlying3 rfl (by kernel_rfl) cs .i64 i v h0 h1 hv w

set_option maxRecDepth 100000 in
set_option maxHeartbeats 1000000 in
theorem Digit_c (t l b : Int) (w : World) : Calls Try.prog 72 #[.int .i64 t, .int .i64 l, .int .i64 b] w fun e w' => e = .returned (.int .i64 (dig t l b)) ∧ Made w w' := by
  by_cases h0 : l < 0
  · have hi := fun w => index40 (upto t b 40) 0 (.int .i64 (dig t l b)) (by omega) (by omega) (by rw [upto_get _ _ _ _ (by decide), ← dg_dig t l b (by rw [lv_neg l h0]; decide), lv_neg l h0]; rfl) w
    go_enter Try.func72, Try.ntmps72
    go_wp2_with (first | (go_at_call 109; refine (Digits_c _ _ _).mono ?_; rintro e w1 ⟨rfl, hB⟩))
    go_ret
    exact ⟨rfl, hB⟩
  · by_cases h1 : 39 < l
    · have hr : Hid ((0 : Int) = (dig t l b : Int)) := by show (0 : Int) = _; rw [dig_far t l b h1]; rfl
      go_enter Try.func72, Try.ntmps72
      go_wp2
      go_ret
      exact ⟨ret_of hr.out, Made.refl _⟩
    · have hi := fun w => index40 (upto t b 40) l (.int .i64 (dig t l b)) (by omega) (by omega) (by rw [upto_get _ _ _ _ (by omega), ← dg_dig t l b (by rw [lv_pos l (by omega) (by omega)]; omega), lv_pos l (by omega) (by omega), if_pos (by omega)]) w
      go_enter Try.func72, Try.ntmps72
      go_wp2_with (first | (go_at_call 109; refine (Digits_c _ _ _).mono ?_; rintro e w1 ⟨rfl, hB⟩))
      go_ret
      exact ⟨rfl, hB⟩

theorem far_zero (t b : Int) : tm t / 2 ^ (wd b * 40) = 0 := by
  have h1 := tm_lt t
  have h2 := wd_bd b
  exact Nat.div_eq_of_lt (Nat.lt_of_lt_of_le (show tm t < 2 ^ 40 by omega) (Nat.pow_le_pow_right (by decide) (Nat.le_mul_of_pos_left 40 h2.1)))
theorem eq_step {a c b : Int} {k : Nat} (h : tm a / 2 ^ (wd b * (k + 1)) = tm c / 2 ^ (wd b * (k + 1))) (hd : dg a b k = dg c b k) : tm a / 2 ^ (wd b * k) = tm c / 2 ^ (wd b * k) := by
  have h1 := split (wd b) (tm a) k
  have h2 := split (wd b) (tm c) k
  unfold dg at hd
  rw [h, hd] at h1
  rw [h1, ← h2]
theorem top_at {a c b : Int} {k : Nat} (h : tm a / 2 ^ (wd b * (k + 1)) = tm c / 2 ^ (wd b * (k + 1))) (hd : dg a b k ≠ dg c b k) : topOf a c b = (k : Int) := by
  rw [topOf_eq (i := k + 1) (Num.Top.of h (fun _ e => hd (by unfold dg; rw [show k + 1 - 1 = k from rfl] at e; rw [e])))]
  omega
theorem top_none {a c b : Int} (h : tm a / 2 ^ (wd b * 0) = tm c / 2 ^ (wd b * 0)) : topOf a c b = -1 := by
  rw [topOf_eq (i := 0) (Num.Top.of h (fun h => absurd rfl h))]
  rfl
theorem dg_lt (t b : Int) (i : Nat) : dg t b i < 64 :=
  Nat.lt_of_lt_of_le (Nat.mod_lt _ (Nat.two_pow_pos _)) (Nat.le_trans (Nat.pow_le_pow_right (n := 2) (by decide) (wd_bd b).2) (show 2 ^ 6 ≤ 64 by decide))

theorem all40 : ∀ w : World, (Instr.alloc 167 true (.tuple #[])).run Try.prog w = .ok (.pointer (some ⟨w.heap.size, 0, none⟩)) (w.alloc (.cells Z40 167)) := fun w => by kernel_rfl
theorem siz40 : (Try.prog.info? 167).map (·.size) = some 40 := by kernel_rfl

set_option maxRecDepth 100000 in
set_option maxHeartbeats 1000000 in
theorem Top_c (a c b : Int) (w : World) : Calls Try.prog 105 #[.int .i64 a, .int .i64 c, .int .i64 b] w fun e w' => e = .returned (.int .i64 (topOf a c b)) ∧ Made w w' := by
  go_enter Try.func105, Try.ntmps105
  go_wp2_with fail
  refine (Digits_c a b w).mono ?_
  rintro e w1 ⟨rfl, hB1⟩
  have hs1 := hB1.size
  go_wp2_with (first | (refine wpList_alloc_zero rfl 167 rfl Z40 all40 ?_) | (refine wpList_store_row rfl 167 (.tmp 7) (.tmp 12) rfl w1.heap.size (upto a b 40) (by simp [Act.eval, Act.put]) (by simp [Act.eval, Act.put]) 167 Z40 (heap_alloc_new _ _) (by rw [siz40, upto_size]) (by rw [upto_size, Z40_size]) (upto_one _ _ _) ?_; rw [World.setRow_alloc_new]))
  refine (Digits_c c b _).mono ?_
  rintro e w2 ⟨rfl, hB2⟩
  have hs2 := hB2.size
  have H1 : Hid (w2.heap[w1.heap.size]? = some (.cells (upto a b 40) 167 (0, 0))) := (hB2.block w1.heap.size (by simp)).trans (heap_alloc_new _ _)
  have hs2' : w1.heap.size < w2.heap.size := by have := hs2; simp at this; omega
  go_wp2_with (first | (refine wpList_alloc_zero rfl 167 rfl Z40 all40 ?_) | (refine wpList_store_row rfl 167 (.tmp 8) (.tmp 15) rfl w2.heap.size (upto c b 40) (by simp [Act.eval, Act.put]) (by simp [Act.eval, Act.put]) 167 Z40 (heap_alloc_new _ _) (by rw [siz40, upto_size]) (by rw [upto_size, Z40_size]) (upto_one _ _ _) ?_; rw [World.setRow_alloc_new]))
  have H1' : Hid ((w2.alloc (.cells (upto c b 40) 167)).heap[w1.heap.size]? = some (.cells (upto a b 40) 167 (0, 0))) := (Below.heap_alloc _ _ _ hs2').trans H1.out
  have H2' : Hid ((w2.alloc (.cells (upto c b 40) 167)).heap[w2.heap.size]? = some (.cells (upto c b 40) 167 (0, 0))) := heap_alloc_new _ _
  have hM : Below w.heap.size w (w2.alloc (.cells (upto c b 40) 167)) := (Below.trans (Below.trans hB1 ((Below.refl w.heap.size w1).alloc hs1 (.cells (upto a b 40) 167))) (Below.mono hB2 (by simp; omega))).alloc (by omega) _
  generalize w2.alloc (.cells (upto c b 40) 167) = w3 at H1' H2' hM ⊢
  generalize w1.heap.size = B1 at *
  generalize w2.heap.size = B2 at *
  clear hB1 hB2 hs1 hs2 hs2' H1
  go_loopw [9] (fun i wr => ∃ k : Nat, k ≤ 40 ∧ i = .int .i64 ((k : Int) - 1) ∧ Hid (tm a / 2 ^ (wd b * k) = tm c / 2 ^ (wd b * k)) ∧ (∃ n, wr = w3.drewN n)) (fun i _ => (intOf i + 1).toNat)
  case atStart => exact ⟨40, by omega, rfl, (show _ = _ by rw [far_zero, far_zero]), 0, rfl⟩
  case round =>
    obtain ⟨k, hk, rfl, HE, n, rfl⟩ := hrel
    by_cases hk0 : k = 0
    · subst hk0
      go_wp2
      go_ret
      exact ⟨ret_of (top_none HE.out).symm, Go.Proofs.Ytndpkonihcebeaa.below_drewN hM _⟩
    · obtain ⟨j, rfl⟩ : ∃ j, k = j + 1 := ⟨k - 1, by omega⟩
      have ej : ((j + 1 : Nat) : Int) - 1 = (j : Int) := by omega
      rw [ej]
      clear ej hk0
      have hj0 : 0 ≤ (j : Int) := by omega
      have hj1 : (j : Int) < 40 := by omega
      have c1 : w3.cell? ⟨B1, j, none⟩ = some (.int .i64 (dg a b j)) := by
        have := cell_of_row w3 B1 j _ _ _ H1'.out
        rw [upto_get _ _ _ _ (by omega), if_pos (by omega)] at this
        exact this
      have c2 : w3.cell? ⟨B2, j, none⟩ = some (.int .i64 (dg c b j)) := by
        have := cell_of_row w3 B2 j _ _ _ H2'.out
        rw [upto_get _ _ _ _ (by omega), if_pos (by omega)] at this
        exact this
      go_wp2
      go_quiet (fail)
      by_cases hd : dg a b j = dg c b j
      · have hne : ((dg a b j : Int) != (dg c b j : Int)) = false := by rw [hd]; simp
        have HD := Lib.hid hd
        clear hd
        go_wp2
        go_roundw
        case rel => exact ⟨j, by omega, rfl, eq_step HE.out HD.out, _, rfl⟩
        case measure => simp [intOf]
      · have hne : ((dg a b j : Int) != (dg c b j : Int)) = true := by rw [bne_iff_ne]; omega
        go_wp2
        go_ret
        exact ⟨ret_of (top_at HE.out hd).symm, Go.Proofs.Ytndpkonihcebeaa.below_drewN (Go.Proofs.Ytndpkonihcebeaa.below_drewN hM _) _⟩

/-- What Floor's loop has gathered behind place k. -/
def fl (t b : Int) (L k : Nat) : Nat := tm t / 2 ^ (wd b * max k L) * 2 ^ (wd b * (max k L - k))
theorem fl_start (t b : Int) (L : Nat) : fl t b L 40 = 0 := by
  have h1 := tm_lt t
  have h2 := wd_bd b
  have h3 : 40 ≤ wd b * max 40 L := Nat.le_trans (show 40 ≤ max 40 L by omega) (Nat.le_mul_of_pos_left _ h2.1)
  unfold fl
  rw [Nat.div_eq_of_lt (Nat.lt_of_lt_of_le (show tm t < 2 ^ 40 by omega) (Nat.pow_le_pow_right (by decide) h3))]
  simp
theorem fl_le (t b : Int) (L k : Nat) : fl t b L k ≤ tm t := by
  unfold fl
  have h : 2 ^ (wd b * (max k L - k)) ≤ 2 ^ (wd b * max k L) := Nat.pow_le_pow_right (by decide) (Nat.mul_le_mul_left _ (by omega))
  exact Nat.le_trans (Nat.mul_le_mul_left _ h) (Nat.div_mul_le_self _ _)
theorem fl_in (t b : Int) (L k : Nat) (h : L ≤ k) : fl t b L (k + 1) * 2 ^ wd b + dg t b k = fl t b L k := by
  unfold fl dg
  rw [show max (k + 1) L = k + 1 by omega, show max k L = k by omega, Nat.sub_self, Nat.sub_self, Nat.mul_zero, Nat.pow_zero, Nat.mul_one, Nat.mul_one]
  exact (split (wd b) (tm t) k).symm
theorem fl_out (t b : Int) (L k : Nat) (h : k < L) : fl t b L (k + 1) * 2 ^ wd b = fl t b L k := by
  unfold fl
  rw [show max (k + 1) L = L by omega, show max k L = L by omega, Nat.mul_assoc, ← Nat.pow_add]
  congr 3
  rw [show L - k = (L - (k + 1)) + 1 by omega, Nat.mul_add, Nat.mul_one]
theorem fl_end (t l b : Int) : fl t b l.toNat 0 = flo t l b := by
  unfold fl flo
  rw [show max 0 l.toNat = l.toNat by omega, Nat.sub_zero]
  have h1 := tm_lt t
  have h2 := wd_bd b
  by_cases h : l ≤ 64
  · have : lv l = l.toNat := by unfold lv; split <;> (try split) <;> omega
    unfold sh; rw [this, Nat.mul_comm l.toNat (wd b)]
  · have h3 : 40 ≤ wd b * l.toNat := Nat.le_trans (show 40 ≤ l.toNat by omega) (Nat.le_mul_of_pos_left _ h2.1)
    have h4 : 40 ≤ sh l b := by
      have : lv l = 64 := by unfold lv; rw [if_neg (by omega), if_pos (by omega)]
      unfold sh; rw [this]; omega
    rw [Nat.div_eq_of_lt (Nat.lt_of_lt_of_le (show tm t < 2 ^ 40 by omega) (Nat.pow_le_pow_right (by decide) h3)),
      Nat.div_eq_of_lt (Nat.lt_of_lt_of_le (show tm t < 2 ^ 40 by omega) (Nat.pow_le_pow_right (by decide) h4))]
    simp
theorem fl_mul (n p : Nat) (hn : n < 4294967296) (hp : p ≤ 64) : wrap64 ((n : Int) * (p : Int)) = ((n * p : Nat) : Int) := by
  have h : n * p ≤ 4294967296 * 64 := Nat.mul_le_mul (by omega) hp
  rw [show (n : Int) * (p : Int) = ((n * p : Nat) : Int) by simp]
  generalize n * p = q at h ⊢
  exact IntWalk.wrap64_in _ (by omega)

set_option maxRecDepth 100000 in
set_option maxHeartbeats 1000000 in
theorem Floor_c (t l b : Int) (w : World) : Calls Try.prog 73 #[.int .i64 t, .int .i64 l, .int .i64 b] w fun e w' => e = .returned (.int .i64 (flo t l b)) ∧ Made w w' := by
  have hfe := Lib.hid (fl_end t l b)
  obtain ⟨L, hL⟩ : ∃ L, L = l.toNat := ⟨_, rfl⟩
  rw [← hL] at hfe
  have HL : Hid (∀ j : Nat, (L ≤ j ↔ l ≤ (j : Int))) := by
    show ∀ j : Nat, (L ≤ j ↔ l ≤ (j : Int))
    intro j; omega
  clear hL
  go_enter Try.func73, Try.ntmps73
  go_wp2_with fail
  refine (Digits_c t b w).mono ?_
  rintro e w1 ⟨rfl, hB1⟩
  have hs1 := hB1.size
  go_wp2_with (first | (refine wpList_alloc_zero rfl 167 rfl Z40 all40 ?_) | (refine wpList_store_row rfl 167 (.tmp 7) (.tmp 12) rfl w1.heap.size (upto t b 40) (by simp [Act.eval, Act.put]) (by simp [Act.eval, Act.put]) 167 Z40 (heap_alloc_new _ _) (by rw [siz40, upto_size]) (by rw [upto_size, Z40_size]) (upto_one _ _ _) ?_; rw [World.setRow_alloc_new]))
  have H1 : Hid ((w1.alloc (.cells (upto t b 40) 167)).heap[w1.heap.size]? = some (.cells (upto t b 40) 167 (0, 0))) := heap_alloc_new _ _
  have hM : Below w.heap.size w (w1.alloc (.cells (upto t b 40) 167)) := Below.alloc hB1 hs1 _
  generalize w1.alloc (.cells (upto t b 40) 167) = w3 at H1 hM ⊢
  generalize w1.heap.size = B1 at *
  clear hB1 hs1
  go_loop [8, 9] (fun n i => ∃ (k q : Nat), k ≤ 40 ∧ i = .int .i64 ((k : Int) - 1) ∧ n = .int .i64 q ∧ q < 4294967296 ∧ Hid (q = fl t b L k)) (fun _ i => (intOf i + 1).toNat)
  case atStart => exact ⟨40, 0, by omega, rfl, rfl, by omega, (fl_start t b L).symm⟩
  case round =>
    obtain ⟨k, q, hk, rfl, rfl, hq, HQ⟩ := hrel
    by_cases hk0 : k = 0
    · subst hk0
      go_wp2
      go_ret
      exact ⟨ret_of (by rw [HQ.out, hfe.out]), hM⟩
    · obtain ⟨j, rfl⟩ : ∃ j, k = j + 1 := ⟨k - 1, by omega⟩
      have ej : ((j + 1 : Nat) : Int) - 1 = (j : Int) := by omega
      rw [ej]
      clear ej hk0
      have hj0 : 0 ≤ (j : Int) := by omega
      have hj1 : (j : Int) < 40 := by omega
      have hd := dg_lt t b j
      have c1 : w3.cell? ⟨B1, j, none⟩ = some (.int .i64 (dg t b j)) := by
        have := cell_of_row w3 B1 j _ _ _ H1.out
        rw [upto_get _ _ _ _ (by omega), if_pos (by omega)] at this
        exact this
      obtain ⟨p, hpe⟩ : ∃ p, p = 2 ^ wd b := ⟨_, rfl⟩
      have hp : p ≤ 64 := by rw [hpe]; exact Nat.le_trans (Nat.pow_le_pow_right (n := 2) (by decide) (wd_bd b).2) (show 2 ^ 6 ≤ 64 by decide)
      have hm := fl_mul q p hq hp
      have hl := Nat.lt_of_le_of_lt (fl_le t b L j) (tm_lt t)
      by_cases hlj : l ≤ (j : Int)
      · have HE : Hid (q * p + dg t b j = fl t b L j) := by show _ = _; rw [HQ.out, hpe]; exact fl_in t b L j ((HL.out j).2 hlj)
        have HS : Hid (∀ w : World, Calls Try.prog 74 #[.int .i64 b] w fun e w' => e = .returned (.int .i64 (p : Int)) ∧ w = w') := by
          show ∀ w : World, _
          intro w; rw [hpe]; exact Size_c b w
        clear hpe
        obtain ⟨m, hme⟩ : ∃ m, m = q * p := ⟨_, rfl⟩
        rw [← hme] at hm HE
        clear hme
        have hml : m < 4294967296 := by have := HE.out; omega
        go_wp2_with (first | (go_at_call 74; refine (HS.out _).mono ?_; rintro e w' ⟨rfl, rfl⟩))
        go_round
        case rel => exact ⟨j, m + dg t b j, by omega, rfl, by go_num, by have := HE.out; omega, HE⟩
        case measure => simp [intOf]
      · have HE : Hid (q * p = fl t b L j) := by show _ = _; rw [HQ.out, hpe]; exact fl_out t b L j (by have := HL.out j; omega)
        have HS : Hid (∀ w : World, Calls Try.prog 74 #[.int .i64 b] w fun e w' => e = .returned (.int .i64 (p : Int)) ∧ w = w') := by
          show ∀ w : World, _
          intro w; rw [hpe]; exact Size_c b w
        clear hpe
        obtain ⟨m, hme⟩ : ∃ m, m = q * p := ⟨_, rfl⟩
        rw [← hme] at hm HE
        clear hme
        go_wp2_with (first | (go_at_call 74; refine (HS.out _).mono ?_; rintro e w' ⟨rfl, rfl⟩))
        go_round
        case rel => exact ⟨j, m, by omega, rfl, by go_num, by have := HE.out; omega, HE⟩
        case measure => simp [intOf]
end Go.Proofs.Ytndpkonihcebeaa.Ref5
namespace Go.Proofs.Ytndpkonihcebeaa.Law5
open Go.RowKit Go.Proofs.Ytndpkonihcebeaa Go.Proofs.Ytndpkonihcebeaa.Num Go.Proofs.Ytndpkonihcebeaa.Dig
set_option maxHeartbeats 1000000 in
theorem RCross_c (n m l b : Int) (w : World) : Calls Try.prog 107 #[.int .i64 n, .int .i64 m, .int .i64 l, .int .i64 b] w fun e w' =>
    e = .returned (.tuple #[.int .i64 (crossOf n m l b).1, .int .i64 (crossOf n m l b).2.1, .bool (crossOf n m l b).2.2]) ∧ Made w w' := by
  have ht := topOf_bd n m b
  have h1 := tm_lt n
  have h2 := tm_lt m
  have hw := wd_bd b
  generalize hT : topOf n m b = T at ht
  have hd1 := dig_bd n l b
  have hd2 := dig_bd m l b
  have hTC : ∀ w : World, Calls Try.prog 105 #[.int .i64 n, .int .i64 m, .int .i64 b] w fun e w' => e = .returned (.int .i64 T) ∧ Made w w' := fun w => by rw [← hT]; exact Ref5.Top_c n m b w
  have HTC := Lib.hid hTC
  have hp : 1 ≤ 2 ^ wd b ∧ 2 ^ wd b ≤ 64 := ⟨Nat.two_pow_pos _, Nat.le_trans (Nat.pow_le_pow_right (n := 2) (by decide) hw.2) (show 2 ^ 6 ≤ 64 by decide)⟩
  have hSC : ∃ p : Nat, 1 ≤ p ∧ p ≤ 64 ∧ Hid (p = 2 ^ wd b) ∧ Hid (∀ w : World, Calls Try.prog 74 #[.int .i64 b] w fun e w' => e = .returned (.int .i64 (p : Int)) ∧ w = w') :=
    ⟨2 ^ wd b, hp.1, hp.2, rfl, fun w => Ref5.Size_c b w⟩
  obtain ⟨p, hp1, hp2, HP, HS⟩ := hSC
  clear hTC hp
  by_cases hc : tm m ≤ tm n
  · have hr := Lib.hid (cross_no (l := l) (b := b) (Or.inl hc))
    clear hT
    by_cases hl : l < 0
    all_goals
      go_enter Try.func107, Try.ntmps107
      go_wp2_with (first | (go_at_call 105; refine (HTC.out _).mono ?_; rintro e w1 ⟨rfl, hM⟩) | (go_at_call 104; refine (Ref5.Time_c _ _).mono ?_; rintro e w' ⟨rfl, rfl⟩))
      go_ret3
      exact ⟨ret3_of hr.out.symm, hM⟩
  · rcases Int.lt_trichotomy T (max l 0) with h | h | h
    · have hr := Lib.hid (cross_no (n := n) (m := m) (l := l) (b := b) (Or.inr (by rw [hT]; exact h)))
      clear hT
      by_cases hl : l < 0
      · have h' : T < 0 := by omega
        go_enter Try.func107, Try.ntmps107
        go_wp2_with (first | (go_at_call 105; refine (HTC.out _).mono ?_; rintro e w1 ⟨rfl, hM⟩) | (go_at_call 104; refine (Ref5.Time_c _ _).mono ?_; rintro e w' ⟨rfl, rfl⟩))
        go_ret3
        exact ⟨ret3_of hr.out.symm, hM⟩
      · have h' : T < l := by omega
        clear h
        go_enter Try.func107, Try.ntmps107
        go_wp2_with (first | (go_at_call 105; refine (HTC.out _).mono ?_; rintro e w1 ⟨rfl, hM⟩) | (go_at_call 104; refine (Ref5.Time_c _ _).mono ?_; rintro e w' ⟨rfl, rfl⟩))
        go_ret3
        exact ⟨ret3_of hr.out.symm, hM⟩
    · have hr := Lib.hid (cross_edge (n := n) (m := m) (l := l) (b := b) hc (by rw [hT]; exact h.symm))
      clear hT
      by_cases hl : l < 0
      · have hm1 := Lib.hid (dig_max n l b hl)
        have hm2 := Lib.hid (dig_max m l b hl)
        have h' : T = 0 := by omega
        subst h'
        clear h
        have hd3 := dig_bd n 0 b
        have hd4 := dig_bd m 0 b
        go_enter Try.func107, Try.ntmps107
        go_wp2_with (first | (go_at_call 105; refine (HTC.out _).mono ?_; rintro e w1 ⟨rfl, hM⟩) | (go_at_call 104; refine (Ref5.Time_c _ _).mono ?_; rintro e w' ⟨rfl, rfl⟩) | (go_at_call 72; refine (Ref5.Digit_c _ _ _ _).mono ?_; rintro e w2 ⟨rfl, hM2⟩))
        go_ret3
        exact ⟨ret3_of (by rw [hr.out, ← hm1.out, ← hm2.out]), Made.trans (Made.trans hM (by assumption)) hM2⟩
      · have h' : T = l := by omega
        subst h'
        clear h
        go_enter Try.func107, Try.ntmps107
        go_wp2_with (first | (go_at_call 105; refine (HTC.out _).mono ?_; rintro e w1 ⟨rfl, hM⟩) | (go_at_call 104; refine (Ref5.Time_c _ _).mono ?_; rintro e w' ⟨rfl, rfl⟩) | (go_at_call 72; refine (Ref5.Digit_c _ _ _ _).mono ?_; rintro e w2 ⟨rfl, hM2⟩))
        go_ret3
        exact ⟨ret3_of (by rw [hr.out]), Made.trans (Made.trans hM (by assumption)) hM2⟩
    · have hr := Lib.hid (cross_all (n := n) (m := m) (l := l) (b := b) hc (by rw [hT]; exact h))
      clear hT
      by_cases hl : l < 0
      all_goals
        have h' : 0 < T := by omega
        have h'' : l < T := by omega
        clear h
        go_enter Try.func107, Try.ntmps107
        go_wp2_with (first | (go_at_call 105; refine (HTC.out _).mono ?_; rintro e w1 ⟨rfl, hM⟩) | (go_at_call 104; refine (Ref5.Time_c _ _).mono ?_; rintro e w' ⟨rfl, rfl⟩) | (go_at_call 74; refine (HS.out _).mono ?_; rintro e w' ⟨rfl, rfl⟩))
        go_ret3
        exact ⟨ret3_of (by rw [hr.out, HP.out]), hM⟩

set_option maxHeartbeats 1000000 in
theorem RPlace_c (n d l b : Int) (w : World) : Calls Try.prog 65 #[.int .i64 n, .int .i64 d, .int .i64 l, .int .i64 b] w fun e w' =>
    e = .returned (.tuple #[.int .i64 (placeOf n d l b).1, .int .i64 (placeOf n d l b).2]) ∧ Made w w' := by
  have ht := topOf_bd n d b
  have h1 := tm_lt n
  have h2 := tm_lt d
  generalize hT : topOf n d b = T at ht
  have hTC : ∀ w : World, Calls Try.prog 105 #[.int .i64 n, .int .i64 d, .int .i64 b] w fun e w' => e = .returned (.int .i64 T) ∧ Made w w' := fun w => by rw [← hT]; exact Ref5.Top_c n d b w
  have HTC := Lib.hid hTC
  clear hTC
  by_cases hc : tm d ≤ tm n
  · have hr : Hid (placeOf n d l b = (-1, -1)) := by show _ = _; unfold placeOf; rw [if_pos hc]
    clear hT
    go_enter Try.func65, Try.ntmps65
    go_wp2_with (first | (go_at_call 104; refine (Ref5.Time_c _ _).mono ?_; rintro e w' ⟨rfl, rfl⟩))
    go_ret2
    exact ⟨ret2_pair hr.out, Made.refl _⟩
  · by_cases hl : T < l
    · have hr : Hid (placeOf n d l b = (T, (dig d T b : Int))) := by show _ = _; unfold placeOf; rw [if_neg hc, hT, if_pos hl]
      clear hT
      go_enter Try.func65, Try.ntmps65
      go_wp2_with (first | (go_at_call 105; refine (HTC.out _).mono ?_; rintro e w1 ⟨rfl, hM⟩) | (go_at_call 104; refine (Ref5.Time_c _ _).mono ?_; rintro e w' ⟨rfl, rfl⟩) | (go_at_call 72; refine (Ref5.Digit_c _ _ _ _).mono ?_; rintro e w2 ⟨rfl, hM2⟩))
      go_ret2
      exact ⟨ret2_pair hr.out, Made.trans hM hM2⟩
    · have hr : Hid (placeOf n d l b = (l, 0)) := by show _ = _; unfold placeOf; rw [if_neg hc, hT, if_neg hl]
      clear hT
      go_enter Try.func65, Try.ntmps65
      go_wp2_with (first | (go_at_call 105; refine (HTC.out _).mono ?_; rintro e w1 ⟨rfl, hM⟩) | (go_at_call 104; refine (Ref5.Time_c _ _).mono ?_; rintro e w' ⟨rfl, rfl⟩))
      go_ret2
      exact ⟨ret2_pair hr.out, hM⟩
end Go.Proofs.Ytndpkonihcebeaa.Law5

/- Package knellref10, walked: Insert; slices of the document's tickets. -/
namespace Go.Proofs.Ytndpkonihcebeaa.Whl
open Go.RowKit Go.Proofs.Ytndpkonihcebeaa Go.Proofs.Ytndpkonihcebeaa.Cell Go.Proofs.Ytndpkonihcebeaa.Seq Go.Proofs.Ytndpkonihcebeaa.Num Go.Proofs.Ytndpkonihcebeaa.SetN Go.Proofs.Ytndpkonihcebeaa.Dig Go.Proofs.Ytndpkonihcebeaa.Bits
set_option linter.unusedVariables false
set_option linter.unusedSimpArgs false

/-- A ticket of the document: which, when it is due, and where it stands. -/
abbrev Tk := Int × Int × Int × Int
def tk1 (x : Tk) : List Value := [.int .i64 x.1, .int .i64 x.2.1, .int .i64 x.2.2.1, .int .i64 x.2.2.2]
def tk (l : List Tk) : List Value := l.flatMap tk1
theorem tk_len : ∀ l : List Tk, (tk l).length = l.length * 4
  | [] => rfl
  | x :: r => by
    have := tk_len r
    unfold tk at this ⊢
    rw [List.flatMap_cons, List.length_append, this]
    simp only [tk1, List.length_cons, List.length_nil]; omega
theorem tk_app (l r : List Tk) : tk (l ++ r) = tk l ++ tk r := by unfold tk; rw [List.flatMap_append]
theorem tk_at : ∀ {l : List Tk} {k : Nat} {x : Tk}, l[k]? = some x → (tk l)[k * 4]? = some (.int .i64 x.1) ∧ (tk l)[k * 4 + 1]? = some (.int .i64 x.2.1) ∧ (tk l)[k * 4 + 2]? = some (.int .i64 x.2.2.1) ∧ (tk l)[k * 4 + 3]? = some (.int .i64 x.2.2.2)
  | [], k, x, h => by simp at h
  | y :: l, 0, x, h => by
    simp only [List.getElem?_cons_zero, Option.some.injEq] at h
    subst h
    exact ⟨rfl, rfl, rfl, rfl⟩
  | y :: l, k + 1, x, h => by
    simp only [List.getElem?_cons_succ] at h
    have e : tk (y :: l) = tk1 y ++ tk l := rfl
    have ih := tk_at h
    have h4 : (tk1 y).length = 4 := rfl
    rw [e, List.getElem?_append_right (by rw [h4]; omega), List.getElem?_append_right (by rw [h4]; omega), List.getElem?_append_right (by rw [h4]; omega), List.getElem?_append_right (by rw [h4]; omega), h4]
    rw [show (k + 1) * 4 - 4 = k * 4 by omega, show (k + 1) * 4 + 1 - 4 = k * 4 + 1 by omega, show (k + 1) * 4 + 2 - 4 = k * 4 + 2 by omega, show (k + 1) * 4 + 3 - 4 = k * 4 + 3 by omega]
    exact ih
theorem tk_one (l : List Tk) : ∀ u ∈ tk l, u.oneCell' = true := fun u hu => by
  unfold tk at hu
  rw [List.mem_flatMap] at hu
  obtain ⟨x, _, hx⟩ := hu
  simp only [tk1, List.mem_cons, List.not_mem_nil, or_false] at hx
  rcases hx with rfl | rfl | rfl | rfl <;> rfl
/-- A slice of the document's tickets, that nobody writes. -/
def Tks (lo : Nat) (w : World) (v : Value) (l : List Tk) : Prop := ∃ A cap, v = .slice A l.length cap ∧ l.length ≤ cap ∧ cap ≤ maxLen ∧ Told lo w A (tk l)
theorem Tks.made {lo : Nat} {w w' : World} {v : Value} {l : List Tk} (h : Tks lo w v l) (m : Made w w') : Tks lo w' v l := by
  obtain ⟨A, cap, rfl, h1, h2, h3⟩ := h
  exact ⟨A, cap, rfl, h1, h2, h3.made m⟩
theorem Tks.past {a b lo : Nat} {w w' : World} {v : Value} {l : List Tk} (h : Tks lo w v l) (p : Past a b w w') (ha : a < lo) (hb : b < lo) : Tks lo w' v l := by
  obtain ⟨A, cap, rfl, h1, h2, h3⟩ := h
  exact ⟨A, cap, rfl, h1, h2, h3.past p ha hb⟩
theorem Tks.mono {lo lo' : Nat} {w : World} {v : Value} {l : List Tk} (h : Tks lo w v l) (hl : lo' ≤ lo) : Tks lo' w v l := by
  obtain ⟨A, cap, rfl, h1, h2, h3⟩ := h
  exact ⟨A, cap, rfl, h1, h2, fun hn => by
    obtain ⟨g, cur, ty, rfl, h4, h5⟩ := h3 hn
    exact ⟨g, cur, ty, rfl, Nat.le_trans hl h4, h5⟩⟩
theorem Tks.but {lo : Nat} {w w' : World} {v : Value} {l : List Tk} (h : Tks lo w v l) (hk : ∀ k, lo ≤ k → w'.heap[k]? = w.heap[k]?) : Tks lo w' v l := by
  obtain ⟨A, cap, rfl, h1, h2, h3⟩ := h
  exact ⟨A, cap, rfl, h1, h2, fun hn => by
    obtain ⟨g, cur, ty, rfl, h4, h5, h6⟩ := h3 hn
    exact ⟨g, cur, ty, rfl, h4, (hk g h4).trans h5, h6⟩⟩
theorem Tks.of_owns {lo n : Nat} {w : World} {v : Value} {l : List Tk} (h : w.ownsRow lo 87 4 v n (tk l)) (hn : n = l.length) : Tks lo w v l := by
  subst hn
  obtain ⟨A, cap, rfl, h1, h2, h3⟩ := Told.of_owns h (tk_len l) (by omega)
  exact ⟨A, cap, rfl, h1, h2, h3⟩
theorem told_reads {lo : Nat} {w : World} {A : Option Addr} {l : List Tk} (h : Told lo w A (tk l)) : ReadsZ 4 w A l.length (tk l) :=
  ⟨tk_len l, fun j u hu => by
    have hn : tk l ≠ [] := fun c => by rw [c] at hu; simp at hu
    obtain ⟨g, cur, ty, rfl, _, h2, h3⟩ := h hn
    refine ⟨_, rfl, ?_⟩
    have e : (⟨g, 0, none⟩ : Addr).add j = ⟨g, j, none⟩ := by unfold Addr.add; split <;> simp_all
    rw [e, cell_of_row _ _ _ _ _ _ h2, h3 j (List.getElem?_eq_some_iff.1 hu).1]
    exact hu⟩
theorem told_cell {lo : Nat} {w : World} {A : Option Addr} {l : List Tk} (h : Told lo w A (tk l)) {k : Nat} {x : Tk} (hx : l[k]? = some x) : ∃ g, A = some ⟨g, 0, none⟩ ∧ lo ≤ g ∧ w.cell? ⟨g, k * 4, none⟩ = some (.int .i64 x.1) ∧ w.cell? ⟨g, k * 4 + 1, none⟩ = some (.int .i64 x.2.1) ∧ w.cell? ⟨g, k * 4 + 2, none⟩ = some (.int .i64 x.2.2.1) ∧ w.cell? ⟨g, k * 4 + 3, none⟩ = some (.int .i64 x.2.2.2) := by
  have hlen := tk_len l
  have hk := (List.getElem?_eq_some_iff.1 hx).1
  have hn : tk l ≠ [] := fun c => by
    have : (tk l).length = 0 := by rw [c]; rfl
    omega
  obtain ⟨g, cur, ty, rfl, h1, h2, h3⟩ := h hn
  obtain ⟨q0, q1, q2, q3⟩ := tk_at hx
  exact ⟨g, rfl, h1, by rw [cell_of_row _ _ _ _ _ _ h2, h3 _ (by omega)]; exact q0, by rw [cell_of_row _ _ _ _ _ _ h2, h3 _ (by omega)]; exact q1, by rw [cell_of_row _ _ _ _ _ _ h2, h3 _ (by omega)]; exact q2, by rw [cell_of_row _ _ _ _ _ _ h2, h3 _ (by omega)]; exact q3⟩
theorem elem_tkr : ElemZ Try.prog 75 87 (.agg #[.int .i64 0, .int .i64 0, .int .i64 0, .int .i64 0]) 4 32 := ⟨Try.underlying75, by kernel_rfl, rfl, by decide⟩
/-- The document's wheel, as a value. -/
abbrev RW (L B : Nat) (now : Int) (v : Value) : Value := .agg #[.int .i64 (L : Int), .int .i64 (B : Int), .int .i64 now, v]
/-- A ticket that is put. -/
noncomputable def newTk (L B : Nat) (now : Int) (t due : Int) : Tk := (t, due, (placeOf now due L B).1, (placeOf now due L B).2)
theorem owns_one {w : World} {lo g : Nat} {x : Tk} (hg : lo ≤ g) (h : w.heap[g]? = some (.cells #[.int .i64 x.1, .int .i64 x.2.1, .int .i64 x.2.2.1, .int .i64 x.2.2.2] 87 (0, 0))) : w.ownsRow lo 87 4 (.slice (some ⟨g, 0, none⟩) 1 1) 1 (tk [x]) :=
  ⟨rfl, Or.inr ⟨g, 1, _, rfl, hg, h, Nat.le_refl _, by unfold maxLen; omega, rfl, rfl⟩⟩
set_option maxRecDepth 100000 in
set_option maxHeartbeats 2000000 in
theorem RInsert_c {L B lo : Nat} {now t due : Int} {v : Value} {l : List Tk} {w : World} (h : Tks lo w v l) (hl : l.length ≤ 1000) :
    Calls Try.prog 32 #[RW L B now v, .int .i64 t, .int .i64 due] w fun e w' => ∃ v', e = .returned (RW L B now v') ∧ Tks w.heap.size w' v' (newTk L B now t due :: l) ∧ Made w w' := by
  obtain ⟨A, cap, rfl, h1, h2, h3⟩ := h
  have HT := Lib.hid h3
  have HPL := Lib.hid (fun w => Law5.RPlace_c now due (L : Int) (B : Int) w)
  clear h3
  unfold RW
  go_enter Try.func32, Try.ntmps32
  go_wp2_with fail
  refine (HPL.out _).mono ?_
  rintro e w1 ⟨rfl, hM1⟩
  have hb0 : w1.heap[w.heap.size]? = some (.cells #[.int .i64 (L : Int), .int .i64 (B : Int), .int .i64 now, .slice A l.length cap] 77 (0, 0)) := (hM1.block _ (by simp only [World.size_alloc]; omega)).trans (heap_alloc2_old _ _ _)
  have hb1 : w1.heap[w.heap.size + 1]? = some (.cells #[.int .i64 0, .int .i64 0, .int .i64 0, .slice none 0 0] 77 (0, 0)) := (hM1.block _ (by simp only [World.size_alloc]; omega)).trans (heap_alloc2_new _ _ _)
  have hm1 : Made w w1 := Made.trans (((Made.refl w).alloc (Nat.le_refl _) _).alloc (by simp) _) hM1
  have hs1 : w.heap.size + 2 ≤ w1.heap.size := by have := hM1.size; simp only [World.size_alloc] at this; omega
  have HT1 := Lib.hid (HT.out.made hm1)
  have HM1 := Lib.hid hm1
  have HB0 := Lib.hid hb0
  have HB1 := Lib.hid hb1
  have x3 : w1.cell? ⟨w.heap.size, 3, none⟩ = some (.slice A l.length cap) := by rw [cell_of_row _ _ _ _ _ _ hb0]; rfl
  obtain ⟨lv, hlv⟩ : ∃ lv, (placeOf now due (L : Int) (B : Int)).1 = lv := ⟨_, rfl⟩
  obtain ⟨sl, hsl⟩ : ∃ sl, (placeOf now due (L : Int) (B : Int)).2 = sl := ⟨_, rfl⟩
  have HNT : Hid (newTk L B now t due = (t, due, lv, sl)) := by show _ = _; unfold newTk; rw [hlv, hsl]
  rw [hlv, hsl]
  have HIN : Hid (∀ A5 c5 (w5 : World), w5.ownsRow w1.heap.size 87 4 (.slice A5 (1 + l.length) c5) (1 + l.length) (tk [(t, due, lv, sl)] ++ tk l) → (w1.alloc (.cells #[.int .i64 t, .int .i64 due, .int .i64 lv, .int .i64 sl] 87)).grownBy w5 (Value.slice (some ⟨w1.heap.size, 0, none⟩) 1 1).ownBlock →
      Tks w1.heap.size w5 (.slice A5 (1 + l.length) c5) ((t, due, lv, sl) :: l) ∧ Made w w5 ∧ w5.heap[w.heap.size]? = some (.cells #[.int .i64 (L : Int), .int .i64 (B : Int), .int .i64 now, .slice A l.length cap] 77 (0, 0)) ∧ w5.heap[w.heap.size + 1]? = some (.cells #[.int .i64 0, .int .i64 0, .int .i64 0, .slice none 0 0] 77 (0, 0)) ∧ w.heap.size + 2 ≤ w5.heap.size) := by
    intro A5 c5 w5 hown hgrow
    have hk : ∀ k, k < w1.heap.size → w5.heap[k]? = w1.heap[k]? := fun k hk => (hgrow.block k (by simp only [World.size_alloc]; omega) (by intro e; have : k = w1.heap.size := Option.some.inj e; omega)).trans (heap_alloc_old _ _ hk)
    have hsz := hgrow.size
    simp only [World.size_alloc] at hsz
    have hm5 : Made w1 w5 := ⟨hgrow.os, hgrow.tape, hgrow.output, by omega, hk⟩
    refine ⟨?_, Made.trans HM1.out hm5, (hk _ (by omega)).trans HB0.out, (hk _ (by omega)).trans HB1.out, by omega⟩
    rw [← tk_app] at hown
    exact Tks.of_owns hown (by simp; omega)
  have x4 : (w1.alloc (.cells #[.int .i64 t, .int .i64 due, .int .i64 lv, .int .i64 sl] 87)).cell? ⟨w.heap.size, 3, none⟩ = some (.slice A l.length cap) := (World.cell?_of_block (heap_alloc_old _ _ (by show w.heap.size < _; omega))).trans x3
  clear hM1 hm1 hb0 hb1 hlv hsl HPL HT x3
  go_upto_region 3 with (at_builtin; (refine wpList_appz _ rfl (.tmp 25) (.tmp 27) 75 rfl w1.heap.size 87 (.agg #[.int .i64 0, .int .i64 0, .int .i64 0, .int .i64 0]) 4 32 elem_tkr (.slice (some ⟨w1.heap.size, 0, none⟩) 1 1) 1 (tk [(t, due, lv, sl)]) (by simp [Act.eval, Act.put]) (owns_one (x := (t, due, lv, sl)) (Nat.le_refl _) (heap_alloc_new w1 _)) A l.length cap (tk l) (by simp [Act.eval, Act.put]) (told_reads (HT1.out.made ((Made.refl _).alloc (Nat.le_refl _) _))) (tk_one l) (by unfold maxLen; omega) (by omega) (by simp only [World.size_alloc]; omega) ?_; intro A5 c5 w5 hown hgrow _; obtain ⟨hT5, hM5, hb5, hb6, hs5⟩ := HIN.out A5 c5 w5 hown hgrow; have HT5 := Lib.hid hT5; have HM5 := Lib.hid hM5; have x5 : w5.cell? ⟨w.heap.size, 3, none⟩ = some (.slice A l.length cap) := (by rw [cell_of_row _ _ _ _ _ _ hb5]; rfl); have z5 : w5.frozen? ⟨w.heap.size, 3, none⟩ = false := frozen_of_row _ _ _ _ _ hb5; have HB5 := Lib.hid hb5; have HB6 := Lib.hid hb6; clear hown hgrow hT5 hM5 hb5 hb6))
  have hg0 : (w5.setCell ⟨w.heap.size, 3, none⟩ (.slice A5 (1 + l.length) c5)).heap[w.heap.size]? = some (.cells #[.int .i64 (L : Int), .int .i64 (B : Int), .int .i64 now, .slice A5 (1 + l.length) c5] 77 (0, 0)) := by
    rw [setCell_eq_setRow _ _ _ _ _ _ _ HB5.out, heap_setRow_same _ _ _ _ _ _ HB5.out]; rfl
  have hg1 : (w5.setCell ⟨w.heap.size, 3, none⟩ (.slice A5 (1 + l.length) c5)).heap[w.heap.size + 1]? = some (.cells #[.int .i64 0, .int .i64 0, .int .i64 0, .slice none 0 0] 77 (0, 0)) := (Cell.heap_setCell_other _ _ _ _ _ (by omega)).trans HB6.out
  have hT6 : Tks w1.heap.size (w5.setCell ⟨w.heap.size, 3, none⟩ (.slice A5 (1 + l.length) c5)) (.slice A5 (1 + l.length) c5) ((t, due, lv, sl) :: l) := HT5.out.but fun k hk => Cell.heap_setCell_other _ _ _ _ _ (by omega)
  have hm6 : Made w (w5.setCell ⟨w.heap.size, 3, none⟩ (.slice A5 (1 + l.length) c5)) := Below.setCell HM5.out (Nat.le_refl _) _
  generalize w5.setCell ⟨w.heap.size, 3, none⟩ (.slice A5 (1 + l.length) c5) = w6 at hg0 hg1 hT6 hm6 ⊢
  have HSZ := Lib.hid (show (Try.prog.info? 77).map (·.size) = some 4 by kernel_rfl)
  have HG0 := Lib.hid hg0
  have HG1 := Lib.hid hg1
  have HR1 : Hid ((w6.setRow (w.heap.size + 1) #[.int .i64 (L : Int), .int .i64 (B : Int), .int .i64 now, .slice A5 (1 + l.length) c5]).heap[w.heap.size + 1]? = some (.cells #[.int .i64 (L : Int), .int .i64 (B : Int), .int .i64 now, .slice A5 (1 + l.length) c5] 77 (0, 0))) := Lib.hid (heap_setRow_same _ _ _ _ _ _ hg1)
  have HT7 : Hid (Tks w.heap.size (w6.setRow (w.heap.size + 1) #[.int .i64 (L : Int), .int .i64 (B : Int), .int .i64 now, .slice A5 (1 + l.length) c5]) (.slice A5 (1 + l.length) c5) ((t, due, lv, sl) :: l)) := (hT6.but fun k hk => heap_setRow_other _ _ _ _ (by omega)).mono (by omega)
  have HM7 : Hid (Made w (w6.setRow (w.heap.size + 1) #[.int .i64 (L : Int), .int .i64 (B : Int), .int .i64 now, .slice A5 (1 + l.length) c5])) := Go.Proofs.Ytndpkonihcebeaa.Below.setRow hm6 (by omega) _
  clear hT6 hm6 hg0 hg1 HT5 HB5 HB6 HM5 x5 z5 HIN HT1 HB0 HB1 HM1 x4
  go_wp2_with (first | (refine wpList_load_row rfl 77 (.tmp 3) rfl w.heap.size (by simp [Act.eval, Act.put]) 77 #[.int .i64 (L : Int), .int .i64 (B : Int), .int .i64 now, .slice A5 (1 + l.length) c5] (0, 0) _ HG0.out Try.underlying77 rfl HSZ.out ?_) | (refine wpList_store_row rfl 77 (.tmp 6) (.tmp 30) rfl (w.heap.size + 1) #[.int .i64 (L : Int), .int .i64 (B : Int), .int .i64 now, .slice A5 (1 + l.length) c5] (by simp [Act.eval, Act.put]) (by simp [Act.eval, Act.put]) 77 _ HG1.out HSZ.out rfl (by simp [Value.oneCell']) ?_))
  exact bodyPost_ret (v := .agg #[.int .i64 (L : Int), .int .i64 (B : Int), .int .i64 now, .slice A5 (1 + l.length) c5]) (results_cell_row rfl _ _ (w.heap.size + 1) 77 _ (0, 0) _ (by simp [Act.put]) HR1.out Try.underlying77 rfl HSZ.out) rfl
    ⟨_, rfl, by rw [HNT.out]; exact HT7.out, HM7.out⟩
end Go.Proofs.Ytndpkonihcebeaa.Whl

/- Package knellref10, walked: passed. -/
namespace Go.Proofs.Ytndpkonihcebeaa.Whl
open Go.RowKit Go.Proofs.Ytndpkonihcebeaa Go.Proofs.Ytndpkonihcebeaa.Cell Go.Proofs.Ytndpkonihcebeaa.Seq Go.Proofs.Ytndpkonihcebeaa.Num Go.Proofs.Ytndpkonihcebeaa.SetN Go.Proofs.Ytndpkonihcebeaa.Dig Go.Proofs.Ytndpkonihcebeaa.Bits
set_option linter.unusedVariables false
set_option linter.unusedSimpArgs false

/-- Is a ticket's list passed? -/
noncomputable def psR (L B : Nat) (now to' : Int) (x : Tk) : Bool :=
  if x.2.2.1 = (L : Int) then decide (tm now < tm to') && decide ((L : Int) ≤ topOf now to' B)
  else (crossOf now to' x.2.2.1 B).2.2 && decide ((crossOf now to' x.2.2.1 B).1 ≤ x.2.2.2) && decide (x.2.2.2 ≤ (crossOf now to' x.2.2.1 B).2.1)
theorem made_of {w w' : World} (h : Hid (Made w w')) : Made w w' := h.out
theorem bool_of {a b : Bool} (h : a = b) : Ending.returned (.bool a) = .returned (.bool b) := by rw [h]
set_option maxRecDepth 100000 in
set_option maxHeartbeats 2000000 in
theorem passed_c (L B : Nat) (now to' t d lv sl : Int) (v : Value) (w : World) :
    Calls Try.prog 68 #[RW L B now v, .agg #[.int .i64 t, .int .i64 d, .int .i64 lv, .int .i64 sl], .int .i64 to'] w fun e w' => e = .returned (.bool (psR L B now to' (t, d, lv, sl))) ∧ Made w w' := by
  have HTM := Lib.hid (fun w => Ref5.Time_c to' w)
  have HTN := Lib.hid (fun w => Ref5.Time_c now w)
  have HTP := Lib.hid (fun w => Ref5.Top_c now to' (B : Int) w)
  have HCR := Lib.hid (fun w => Law5.RCross_c now to' lv (B : Int) w)
  unfold RW
  by_cases hL : lv = (L : Int)
  · subst hL
    by_cases hlt : tm now < tm to'
    · have i0 : (tm now : Int) < (tm to' : Int) := by omega
      have HR : Hid (decide ((L : Int) ≤ topOf now to' (B : Int)) = psR L B now to' (t, d, (L : Int), sl)) := by
        show _ = _
        unfold psR
        rw [if_pos rfl]
        simp [hlt]
      go_enter Try.func68, Try.ntmps68
      go_upto_region 2 with fail
      have hm0 : Made w ((w.alloc (.cells #[.int .i64 (L : Int), .int .i64 (B : Int), .int .i64 now, v] 77)).alloc (.cells #[.int .i64 t, .int .i64 d, .int .i64 (L : Int), .int .i64 sl] 87)) := ((Made.refl w).alloc (Nat.le_refl _) _).alloc (by simp) _
      have hb0 : ((w.alloc (.cells #[.int .i64 (L : Int), .int .i64 (B : Int), .int .i64 now, v] 77)).alloc (.cells #[.int .i64 t, .int .i64 d, .int .i64 (L : Int), .int .i64 sl] 87)).heap[w.heap.size]? = some (.cells #[.int .i64 (L : Int), .int .i64 (B : Int), .int .i64 now, v] 77 (0, 0)) := heap_alloc2_old _ _ _
      have hlt0 : w.heap.size < ((w.alloc (.cells #[.int .i64 (L : Int), .int .i64 (B : Int), .int .i64 now, v] 77)).alloc (.cells #[.int .i64 t, .int .i64 d, .int .i64 (L : Int), .int .i64 sl] 87)).heap.size := by simp only [World.size_alloc]; omega
      generalize (w.alloc (.cells #[.int .i64 (L : Int), .int .i64 (B : Int), .int .i64 now, v] 77)).alloc (.cells #[.int .i64 t, .int .i64 d, .int .i64 (L : Int), .int .i64 sl] 87) = wb at hm0 hb0 hlt0 ⊢
      have HK : Hid (∀ w', Made wb w' → w'.cell? ⟨w.heap.size, 0, none⟩ = some (.int .i64 (L : Int)) ∧ w'.cell? ⟨w.heap.size, 1, none⟩ = some (.int .i64 (B : Int)) ∧ w'.cell? ⟨w.heap.size, 2, none⟩ = some (.int .i64 now)) := by
        intro w' hm
        have h := (hm.block _ hlt0).trans hb0
        exact ⟨by rw [cell_of_row _ _ _ _ _ _ h]; rfl, by rw [cell_of_row _ _ _ _ _ _ h]; rfl, by rw [cell_of_row _ _ _ _ _ _ h]; rfl⟩
      have HM0 := Lib.hid hm0
      clear hm0 hb0 hlt0
      go_region_held3 (fun w1 => w1.cell? ⟨w.heap.size, 0, none⟩ = some (.int .i64 (L : Int)) ∧ w1.cell? ⟨w.heap.size, 1, none⟩ = some (.int .i64 (B : Int)) ∧ w1.cell? ⟨w.heap.size, 2, none⟩ = some (.int .i64 now)) (first | exact HK.out _ (Made.refl _) | exact HK.out _ (Made.drewN _ 1) | exact HK.out _ (made_of (by assumption))) (first | (go_at_call_of 104 (Value.int IntKind.i64 to'); refine (HTM.out _).mono ?_; rintro e w' ⟨rfl, rfl⟩) | (go_at_call_of 104 (Value.int IntKind.i64 now); refine (HTN.out _).mono ?_; rintro e w' ⟨rfl, rfl⟩) | (go_at_call 105; refine (HTP.out _).mono ?_; rintro e w3 ⟨rfl, hM3⟩; have HM3 := Lib.hid (Made.trans (Made.drewN wb 1) hM3); clear hM3))
      go_wp2_with fail
      go_ret
      exact ⟨bool_of HR.out, Made.trans HM0.out HM3.out⟩
    · have i0 : ¬ (tm now : Int) < (tm to' : Int) := by omega
      have i1 : decide ((tm now : Int) < (tm to' : Int)) = false := decide_eq_false i0
      have i2 : (tm to' : Int) ≤ (tm now : Int) := by omega
      have i3 : ¬ tm now < tm to' := hlt
      have i4 : decide (tm now < tm to') = false := decide_eq_false hlt
      have HR : Hid (false = psR L B now to' (t, d, (L : Int), sl)) := by
        show _ = _
        unfold psR
        rw [if_pos rfl]
        simp [hlt]
      go_enter Try.func68, Try.ntmps68
      go_upto_region 2 with fail
      have hm0 : Made w ((w.alloc (.cells #[.int .i64 (L : Int), .int .i64 (B : Int), .int .i64 now, v] 77)).alloc (.cells #[.int .i64 t, .int .i64 d, .int .i64 (L : Int), .int .i64 sl] 87)) := ((Made.refl w).alloc (Nat.le_refl _) _).alloc (by simp) _
      have hb0 : ((w.alloc (.cells #[.int .i64 (L : Int), .int .i64 (B : Int), .int .i64 now, v] 77)).alloc (.cells #[.int .i64 t, .int .i64 d, .int .i64 (L : Int), .int .i64 sl] 87)).heap[w.heap.size]? = some (.cells #[.int .i64 (L : Int), .int .i64 (B : Int), .int .i64 now, v] 77 (0, 0)) := heap_alloc2_old _ _ _
      have hlt0 : w.heap.size < ((w.alloc (.cells #[.int .i64 (L : Int), .int .i64 (B : Int), .int .i64 now, v] 77)).alloc (.cells #[.int .i64 t, .int .i64 d, .int .i64 (L : Int), .int .i64 sl] 87)).heap.size := by simp only [World.size_alloc]; omega
      generalize (w.alloc (.cells #[.int .i64 (L : Int), .int .i64 (B : Int), .int .i64 now, v] 77)).alloc (.cells #[.int .i64 t, .int .i64 d, .int .i64 (L : Int), .int .i64 sl] 87) = wb at hm0 hb0 hlt0 ⊢
      have HK : Hid (∀ w', Made wb w' → w'.cell? ⟨w.heap.size, 0, none⟩ = some (.int .i64 (L : Int)) ∧ w'.cell? ⟨w.heap.size, 1, none⟩ = some (.int .i64 (B : Int)) ∧ w'.cell? ⟨w.heap.size, 2, none⟩ = some (.int .i64 now)) := by
        intro w' hm
        have h := (hm.block _ hlt0).trans hb0
        exact ⟨by rw [cell_of_row _ _ _ _ _ _ h]; rfl, by rw [cell_of_row _ _ _ _ _ _ h]; rfl, by rw [cell_of_row _ _ _ _ _ _ h]; rfl⟩
      have HM0 := Lib.hid hm0
      clear hm0 hb0 hlt0
      obtain ⟨k0, k1, k2⟩ := HK.out _ (Made.refl _)
      go_quiet (first | (go_at_call_of 104 (Value.int IntKind.i64 to'); exact Calls.quiet_of_same ((HTM.out _).mono fun e w' h => ⟨h.1, h.2.symm⟩)) | (go_at_call_of 104 (Value.int IntKind.i64 now); exact Calls.quiet_of_same ((HTN.out _).mono fun e w' h => ⟨h.1, h.2.symm⟩)))
      go_wp2_with fail
      go_ret
      exact ⟨bool_of HR.out, Made.trans HM0.out (Made.drewN _ _)⟩
  · obtain ⟨c, hc⟩ : ∃ c, crossOf now to' lv (B : Int) = c := ⟨_, rfl⟩
    rw [hc] at HCR
    have HR : Hid ((c.2.2 && decide (c.1 ≤ sl) && decide (sl ≤ c.2.1)) = psR L B now to' (t, d, lv, sl)) := by
      show _ = _
      unfold psR
      rw [if_neg hL]
      rw [hc]
    obtain ⟨c1, c2, cb⟩ := c
    simp only at HCR HR
    clear hc
    cases cb with
    | false =>
      go_enter Try.func68, Try.ntmps68
      go_wp2_with fail
      refine (HCR.out _).mono ?_
      rintro e w1 ⟨rfl, hM1⟩
      have HM1 := Lib.hid hM1
      clear hM1
      go_wp2_with fail
      go_ret
      exact ⟨bool_of (by rw [← HR.out]; rfl), Made.trans ((((Made.refl w).alloc (Nat.le_refl _) _).alloc (by simp) _)) HM1.out⟩
    | true =>
      have HR2 : Hid (∀ b1 b2 : Bool, b1 = decide (c1 ≤ sl) → b2 = decide (sl ≤ c2) → (b1 && b2) = psR L B now to' (t, d, lv, sl)) := by
        intro b1 b2 h1 h2
        rw [← HR.out, h1, h2, Bool.true_and]
      clear HR
      by_cases h1 : c1 ≤ sl
      · have HE : Hid (decide (sl ≤ c2) = psR L B now to' (t, d, lv, sl)) := by
          have := HR2.out true (decide (sl ≤ c2)) (by simp [h1]) rfl
          rw [Bool.true_and] at this
          exact this
        go_enter Try.func68, Try.ntmps68
        go_wp2_with fail
        refine (HCR.out _).mono ?_
        rintro e w1 ⟨rfl, hM1⟩
        have HM1 := Lib.hid hM1
        have hb1 : w1.heap[w.heap.size + 1]? = some (.cells #[.int .i64 t, .int .i64 d, .int .i64 lv, .int .i64 sl] 87 (0, 0)) := (hM1.block _ (by simp only [World.size_alloc]; omega)).trans (heap_alloc2_new _ _ _)
        have y3 : w1.cell? ⟨w.heap.size + 1, 3, none⟩ = some (.int .i64 sl) := by rw [cell_of_row _ _ _ _ _ _ hb1]; rfl
        clear hM1 hb1
        go_wp2_with fail
        go_ret
        exact ⟨bool_of HE.out, Made.trans ((((Made.refl w).alloc (Nat.le_refl _) _).alloc (by simp) _)) HM1.out⟩
      · go_enter Try.func68, Try.ntmps68
        go_wp2_with fail
        refine (HCR.out _).mono ?_
        rintro e w1 ⟨rfl, hM1⟩
        have HM1 := Lib.hid hM1
        have hb1 : w1.heap[w.heap.size + 1]? = some (.cells #[.int .i64 t, .int .i64 d, .int .i64 lv, .int .i64 sl] 87 (0, 0)) := (hM1.block _ (by simp only [World.size_alloc]; omega)).trans (heap_alloc2_new _ _ _)
        have y3 : w1.cell? ⟨w.heap.size + 1, 3, none⟩ = some (.int .i64 sl) := by rw [cell_of_row _ _ _ _ _ _ hb1]; rfl
        clear hM1 hb1
        go_wp2_with fail
        go_ret
        exact ⟨bool_of (HR2.out false (decide (sl ≤ c2)) (by simp [h1]) rfl), Made.trans ((((Made.refl w).alloc (Nat.le_refl _) _).alloc (by simp) _)) HM1.out⟩
end Go.Proofs.Ytndpkonihcebeaa.Whl

/- Package knellref10, walked: Lists. -/
namespace Go.Proofs.Ytndpkonihcebeaa.Whl
open Go.RowKit Go.Proofs.Ytndpkonihcebeaa Go.Proofs.Ytndpkonihcebeaa.Cell Go.Proofs.Ytndpkonihcebeaa.Seq Go.Proofs.Ytndpkonihcebeaa.Num Go.Proofs.Ytndpkonihcebeaa.SetN Go.Proofs.Ytndpkonihcebeaa.Dig Go.Proofs.Ytndpkonihcebeaa.Bits
set_option linter.unusedVariables false
set_option linter.unusedSimpArgs false

/-- Does a ticket stand there? -/
def atT (a b : Nat) (x : Tk) : Bool := decide (x.2.2.1 = (a : Int)) && decide (x.2.2.2 = (b : Int))
def lsS (l : List Tk) (a n : Nat) : List Tk := (List.range n).flatMap fun b => l.filter (atT a b)
def lsL (S : Nat) (l : List Tk) (n : Nat) : List Tk := (List.range n).flatMap fun a => lsS l a S
theorem lsS_succ (l : List Tk) (a n : Nat) : lsS l a (n + 1) = lsS l a n ++ l.filter (atT a n) := by unfold lsS; rw [List.range_succ, List.flatMap_append]; simp
theorem lsL_succ (S : Nat) (l : List Tk) (n : Nat) : lsL S l (n + 1) = lsL S l n ++ lsS l n S := by unfold lsL; rw [List.range_succ, List.flatMap_append]; simp
theorem lsS_len (l : List Tk) (a : Nat) : ∀ n, (lsS l a n).length ≤ n * l.length
  | 0 => by simp [lsS]
  | n + 1 => by
    have h1 := lsS_len l a n
    have h2 := List.length_filter_le (atT a n) l
    rw [lsS_succ, List.length_append, Nat.add_mul, Nat.one_mul]; omega
theorem lsL_len (S : Nat) (l : List Tk) : ∀ n, (lsL S l n).length ≤ n * (S * l.length)
  | 0 => by simp [lsL]
  | n + 1 => by
    have h1 := lsL_len S l n
    have h2 := lsS_len l n S
    rw [lsL_succ, List.length_append, Nat.add_mul, Nat.one_mul]; omega
/-- What holds between the operations of Lists. -/
structure LsW (L B : Nat) (now : Int) (v : Value) (w wr : World) (A : Option Addr) (n c : Nat) (acc : List Tk) : Prop where
  md : Made w wr
  bx : wr.heap[w.heap.size]? = some (.cells #[.int .i64 (L : Int), .int .i64 (B : Int), .int .i64 now, v] 77 (0, 0))
  sz : w.heap.size + 1 ≤ wr.heap.size
  own : wr.ownsRow (w.heap.size + 1) 87 4 (.slice A n c) n (tk acc)
  len : n = acc.length
theorem LsW.app {L B : Nat} {now : Int} {v : Value} {w wr w' : World} {A A' : Option Addr} {n c c' : Nat} {acc : List Tk} {x : Tk} {o : Obj} (h : LsW L B now v w wr A n c acc) (hown : w'.ownsRow (w.heap.size + 1) 87 4 (.slice A' (n + 1) c') (n + 1) (tk acc ++ tk1 x)) (hg : (wr.alloc o).grownBy w' (Value.slice A n c).ownBlock) : LsW L B now v w w' A' (n + 1) c' (acc ++ [x]) := by
  have hA : ∀ g, A = some g → w.heap.size + 1 ≤ g.block := fun g e => by
    rcases h.own.2 with ⟨e2, _⟩ | ⟨g', cap, cur, e2, h1, _⟩
    · simp only [Value.slice.injEq] at e2
      rw [e2.1] at e; cases e
    · simp only [Value.slice.injEq] at e2
      rw [e2.1] at e; cases e; exact h1
  have hk : ∀ k, k < w.heap.size + 1 → w'.heap[k]? = wr.heap[k]? := fun k hk => by
    have := h.sz
    refine (hg.block k (by simp only [World.size_alloc]; omega) ?_).trans (heap_alloc_old _ _ (by omega))
    cases A with
    | none => intro e; cases e
    | some g =>
      intro e
      have e2 : k = g.block := Option.some.inj e
      have := hA g rfl
      omega
  have hs := hg.size
  simp only [World.size_alloc] at hs
  have hsz := h.sz
  refine ⟨Below.trans h.md ⟨hg.os, hg.tape, hg.output, by omega, fun k hk' => hk k (by omega)⟩, (hk _ (by omega)).trans h.bx, by omega, ?_, by rw [List.length_append, h.len]; rfl⟩
  rw [tk_app]
  have e : tk [x] = tk1 x := by unfold tk; simp
  rw [e]; exact hown
theorem LsW.cells {L B : Nat} {now : Int} {v : Value} {w wr : World} {A : Option Addr} {n c : Nat} {acc : List Tk} (h : LsW L B now v w wr A n c acc) : wr.cell? ⟨w.heap.size, 0, none⟩ = some (.int .i64 (L : Int)) ∧ wr.cell? ⟨w.heap.size, 1, none⟩ = some (.int .i64 (B : Int)) :=
  ⟨by rw [cell_of_row _ _ _ _ _ _ h.bx]; rfl, by rw [cell_of_row _ _ _ _ _ _ h.bx]; rfl⟩
theorem LsW.begin {L B : Nat} {now : Int} {v : Value} {w : World} : LsW L B now v w ((w.alloc (.cells #[.int .i64 (L : Int), .int .i64 (B : Int), .int .i64 now, v] 77)).alloc (.cells #[] 87)) (some ⟨w.heap.size + 1, 0, none⟩) 0 0 [] :=
  ⟨((Made.refl w).alloc (Nat.le_refl _) _).alloc (by simp) _, heap_alloc2_old _ _ _, by simp only [World.size_alloc]; omega, ⟨rfl, Or.inr ⟨w.heap.size + 1, 0, #[], rfl, Nat.le_refl _, heap_alloc2_new _ _ _, Nat.le_refl _, Nat.zero_le _, rfl, rfl⟩⟩, rfl⟩
theorem reads4 (w : World) (x0 x1 x2 x3 : Value) : ReadsZ 4 (w.alloc (.cells #[x0, x1, x2, x3] 87)) (some ⟨w.heap.size, 0, none⟩) 1 [x0, x1, x2, x3] :=
  ⟨rfl, fun j u hu => ⟨_, rfl, by
    have e : (⟨w.heap.size, 0, none⟩ : Addr).add j = ⟨w.heap.size, j, none⟩ := by unfold Addr.add; split <;> simp_all
    rw [e, cell_of_row _ _ _ _ _ _ (heap_alloc_new w _)]
    rw [← hu, ← Array.getElem?_toList]⟩⟩
set_option maxRecDepth 100000 in
set_option maxHeartbeats 2000000 in
theorem Lists_c (L B lo : Nat) (now : Int) (v vl : Value) (l : List Tk) (w : World) (hL : L ≤ 8) (hB1 : 1 ≤ B) (hB6 : B ≤ 6) (hl : l.length ≤ 1000) (h : Tks lo w vl l) :
    Calls Try.prog 69 #[RW L B now v, vl] w fun e w' => ∃ v', e = .returned v' ∧ Tks w.heap.size w' v' (lsL (2 ^ B) l (L + 1)) ∧ Made w w' := by
  obtain ⟨A, cap, rfl, h1, h2, h3⟩ := h
  have HT := Lib.hid h3
  obtain ⟨S, hS, hS64⟩ : ∃ S : Nat, S = 2 ^ B ∧ S ≤ 64 := ⟨2 ^ B, rfl, by have := Nat.pow_le_pow_right (n := 2) (by decide) hB6; omega⟩
  have HSZ : Hid (∀ w : World, Calls Try.prog 74 #[.int .i64 (B : Int)] w fun e w' => e = .returned (.int .i64 (S : Int)) ∧ w = w') := fun w => by
    have := Ref5.Size_c (B : Int) w
    rw [Num.wd_nat B hB1 hB6, ← hS] at this
    exact this
  rw [← hS]
  clear hS h3
  unfold RW
  obtain ⟨n, hn⟩ : ∃ n, l.length = n := ⟨_, rfl⟩
  rw [hn] at h1 hl ⊢
  have HN := Lib.hid hn
  clear hn
  go_enter Try.func69, Try.ntmps69
  go_wp2_with fail
  have HB := Lib.hid (LsW.begin (L := L) (B := B) (now := now) (v := v) (w := w))
  generalize (w.alloc (.cells #[.int .i64 (L : Int), .int .i64 (B : Int), .int .i64 now, v] 77)).alloc (.cells #[] 87) = wb at HB ⊢
  go_loopw [5, 6] (fun ov i wr => ∃ (lv n5 c5 : Nat) (A5 : Option Addr), i = .int .i64 (lv : Int) ∧ lv ≤ L + 1 ∧ ov = .slice A5 n5 c5 ∧ Hid (LsW L B now v w wr A5 n5 c5 (lsL S l lv))) (fun _ i _ => (L + 1 - intOf i).toNat)
  case atStart => exact ⟨0, 0, 0, _, rfl, by omega, rfl, HB⟩
  case round =>
    clear HB
    obtain ⟨lv, n5, c5, A5, rfl, hlv, rfl, HW⟩ := hrel
    by_cases hlt : lv ≤ L
    · have i2 : (lv : Int) ≤ (L : Int) := by omega
      obtain ⟨x0, x1⟩ := HW.out.cells
      have HW0 : Hid (LsW L B now v w wr A5 n5 c5 (lsL S l lv ++ lsS l lv 0)) := by
        have e : lsL S l lv ++ lsS l lv 0 = lsL S l lv := by simp [lsS]
        rw [e]; exact HW
      clear HW
      go_wp2_with fail
      clear x0 x1
      go_loopw [5, 7] (fun ov i wr => ∃ (sl n5 c5 : Nat) (A5 : Option Addr), i = .int .i64 (sl : Int) ∧ sl ≤ S ∧ ov = .slice A5 n5 c5 ∧ Hid (LsW L B now v w wr A5 n5 c5 (lsL S l lv ++ lsS l lv sl))) (fun _ i _ => (S - intOf i).toNat)
      case atStart => exact ⟨0, n5, c5, A5, rfl, by omega, rfl, HW0⟩
      case round =>
        clear HW0
        obtain ⟨sl, n5, c5, A5, rfl, hsl, rfl, HW⟩ := hrel
        obtain ⟨x0, x1⟩ := HW.out.cells
        by_cases hlt : sl < S
        · have i3 : (sl : Int) < (S : Int) := by omega
          have HW0 : Hid (LsW L B now v w wr A5 n5 c5 (lsL S l lv ++ lsS l lv sl ++ (l.take 0).filter (atT lv sl))) := by
            rw [List.take_zero, List.filter_nil, List.append_nil]; exact HW
          clear HW
          go_wp2_with (first | (go_at_call 74; refine (HSZ.out _).mono ?_; rintro e w' ⟨rfl, rfl⟩))
          clear x0 x1
          go_loopw [5, 8] (fun ov i wr => ∃ (k n5 c5 : Nat) (A5 : Option Addr), i = .int .i64 (k : Int) ∧ k ≤ n ∧ ov = .slice A5 n5 c5 ∧ Hid (LsW L B now v w wr A5 n5 c5 (lsL S l lv ++ lsS l lv sl ++ (l.take k).filter (atT lv sl)))) (fun _ i _ => (n - intOf i).toNat)
          case atStart => exact ⟨0, n5, c5, A5, rfl, by omega, rfl, HW0⟩
          case round =>
            clear HW0
            obtain ⟨k, n5, c5, A5, rfl, hk, rfl, HW⟩ := hrel
            by_cases hlt : k < n
            · have i4 : (k : Int) < (n : Int) := by omega
              have hkl : k < l.length := by have := HN.out; omega
              obtain ⟨⟨xt, xd, xl, xs⟩, hx⟩ : ∃ x, l[k]? = some x := ⟨_, List.getElem?_eq_getElem hkl⟩
              obtain ⟨g, rfl, hg, y0, y1, y2, y3⟩ := told_cell (HT.out.made HW.out.md) hx
              simp only at y0 y1 y2 y3
              have hk0 : (0 : Int) ≤ (k : Int) := by omega
              have HTK : Hid ((l.take (k + 1)).filter (atT lv sl) = (l.take k).filter (atT lv sl) ++ if atT lv sl (xt, xd, xl, xs) = true then [(xt, xd, xl, xs)] else []) := by
                show _ = _
                rw [List.take_add_one, hx, List.filter_append]
                congr 1
                simp only [Option.toList_some, List.filter_cons, List.filter_nil]
              clear hx hkl
              by_cases hxl : xl = (lv : Int)
              · subst hxl
                by_cases hxs : xs = (sl : Int)
                · subst hxs
                  have HTK2 : Hid ((l.take (k + 1)).filter (atT lv sl) = (l.take k).filter (atT lv sl) ++ [(xt, xd, (lv : Int), (sl : Int))]) := by
                    rw [HTK.out]
                    show _ = _
                    rw [if_pos (by simp [atT])]
                  have hbd : n5 ≤ 1000000 := by
                    have h1 := HW.out.len
                    have h2 := lsL_len S l lv
                    have h3 := lsS_len l lv sl
                    have h4 := List.length_filter_le (atT lv sl) (l.take k)
                    rw [List.length_take] at h4
                    rw [List.length_append, List.length_append] at h1
                    have h5 := HN.out
                    have h6 : lv * (S * l.length) ≤ 9 * (64 * 1000) := Nat.mul_le_mul (by omega) (Nat.mul_le_mul hS64 (by omega))
                    have h7 : sl * l.length ≤ 64 * 1000 := Nat.mul_le_mul (by omega) (by omega)
                    omega
                  have hsz := HW.out.sz
                  clear HTK
                  go_wp2_with (at_builtin; (refine wpList_appz _ rfl (.tmp 45) (.tmp 50) 75 rfl (w.heap.size + 1) 87 (.agg #[.int .i64 0, .int .i64 0, .int .i64 0, .int .i64 0]) 4 32 elem_tkr (.slice A5 n5 c5) n5 (tk (lsL S l lv ++ lsS l lv sl ++ (l.take k).filter (atT lv sl))) (by simp [Act.eval, Act.put]) (World.ownsRow.alloc HW.out.own _) (some ⟨wr.heap.size, 0, none⟩) 1 1 (tk1 (xt, xd, (lv : Int), (sl : Int))) (by simp [Act.eval, Act.put]) (reads4 wr _ _ _ _) (by simp [tk1, Value.oneCell']) (by unfold maxLen; omega) (by omega) (by simp only [World.size_alloc]; omega) ?_; intro A6 c6 w6 hown hgrow _; have HW6 := Lib.hid (HW.out.app hown hgrow); clear hown hgrow))
                  go_roundw
                  case rel => exact ⟨k + 1, n5 + 1, c6, A6, by go_num, by omega, rfl, by rw [HTK2.out, ← List.append_assoc]; exact HW6⟩
                  case measure => simp [intOf]; omega
                · have HTK2 : Hid ((l.take (k + 1)).filter (atT lv sl) = (l.take k).filter (atT lv sl)) := by
                    rw [HTK.out]
                    show _ = _
                    rw [if_neg (by simp [atT, hxs]), List.append_nil]
                  clear HTK
                  go_wp2_with fail
                  go_roundw
                  case rel => exact ⟨k + 1, n5, c5, A5, by go_num, by omega, rfl, by rw [HTK2.out]; exact HW⟩
                  case measure => simp [intOf]; omega
              · have HTK2 : Hid ((l.take (k + 1)).filter (atT lv sl) = (l.take k).filter (atT lv sl)) := by
                  rw [HTK.out]
                  show _ = _
                  rw [if_neg (by simp [atT, hxl]), List.append_nil]
                clear HTK
                go_wp2_with fail
                go_roundw
                case rel => exact ⟨k + 1, n5, c5, A5, by go_num, by omega, rfl, by rw [HTK2.out]; exact HW⟩
                case measure => simp [intOf]; omega
            · obtain rfl : k = n := by omega
              have HW2 : Hid (LsW L B now v w wr A5 n5 c5 (lsL S l lv ++ lsS l lv (sl + 1))) := by
                have h := HW.out
                rw [List.take_of_length_le (by have := HN.out; omega), List.append_assoc, ← lsS_succ] at h
                exact h
              clear HW
              go_wp2_with fail
              go_roundw
              case rel => exact ⟨sl + 1, n5, c5, A5, by go_num, by omega, rfl, HW2⟩
              case measure => simp [intOf]; omega
        · obtain rfl : sl = S := by omega
          have HW2 : Hid (LsW L B now v w wr A5 n5 c5 (lsL sl l (lv + 1))) := by
            have h := HW.out
            rw [← lsL_succ] at h
            exact h
          clear HW
          go_wp2_with (first | (go_at_call 74; refine (HSZ.out _).mono ?_; rintro e w' ⟨rfl, rfl⟩))
          go_roundw
          case rel => exact ⟨lv + 1, n5, c5, A5, by go_num, by omega, rfl, HW2⟩
          case measure => simp [intOf]; omega
    · obtain rfl : lv = L + 1 := by omega
      have i2 : ¬ ((L + 1 : Nat) : Int) ≤ (L : Int) := by omega
      have i3 : ¬ (L : Int) + 1 ≤ (L : Int) := by omega
      obtain ⟨x0, x1⟩ := HW.out.cells
      have HF : Hid (Tks w.heap.size wr (.slice A5 n5 c5) (lsL S l (L + 1)) ∧ Made w wr) := ⟨(Tks.of_owns HW.out.own HW.out.len).mono (by omega), HW.out.md⟩
      clear HW
      go_wp2_with fail
      go_ret
      exact ⟨_, rfl, HF.out.1, HF.out.2⟩
end Go.Proofs.Ytndpkonihcebeaa.Whl

/- Package knellref10, walked: Pass. -/
namespace Go.Proofs.Ytndpkonihcebeaa.Whl
open Go.RowKit Go.Proofs.Ytndpkonihcebeaa Go.Proofs.Ytndpkonihcebeaa.Cell Go.Proofs.Ytndpkonihcebeaa.Seq Go.Proofs.Ytndpkonihcebeaa.Num Go.Proofs.Ytndpkonihcebeaa.SetN Go.Proofs.Ytndpkonihcebeaa.Dig Go.Proofs.Ytndpkonihcebeaa.Bits
set_option linter.unusedVariables false
set_option linter.unusedSimpArgs false

/-- What holds between the operations of Pass. -/
structure PsW (L B : Nat) (now : Int) (v : Value) (w wr : World) (A1 : Option Addr) (n1 c1 : Nat) (A2 : Option Addr) (n2 c2 : Nat) (l1 l2 : List Tk) : Prop where
  md : Made w wr
  bx : wr.heap[w.heap.size]? = some (.cells #[.int .i64 (L : Int), .int .i64 (B : Int), .int .i64 now, v] 77 (0, 0))
  rs : wr.heap[w.heap.size + 1]? = some (.cells #[.int .i64 0, .int .i64 0, .int .i64 0, .slice none 0 0] 77 (0, 0))
  sz : w.heap.size + 2 ≤ wr.heap.size
  own1 : wr.ownsRow (w.heap.size + 2) 87 4 (.slice A1 n1 c1) n1 (tk l1)
  own2 : wr.ownsRow (w.heap.size + 2) 87 4 (.slice A2 n2 c2) n2 (tk l2)
  ne : ∀ g g', A1 = some g → A2 = some g' → g.block ≠ g'.block
  len1 : n1 = l1.length
  len2 : n2 = l2.length
theorem own_at {w : World} {lo sz n n' c : Nat} {ty : TypeId} {A : Option Addr} {cs : List Value} (h : w.ownsRow lo ty sz (.slice A n c) n' cs) {g : Addr} (e : A = some g) : lo ≤ g.block ∧ g.block < w.heap.size := by
  rcases h.2 with ⟨e2, _⟩ | ⟨g', cap, cur, e2, h1, h2, _⟩
  · simp only [Value.slice.injEq] at e2
    rw [e2.1] at e; cases e
  · simp only [Value.slice.injEq] at e2
    rw [e2.1] at e; cases e
    exact ⟨h1, (Array.getElem?_eq_some_iff.1 h2).1⟩
theorem own_keep {w w' : World} {lo sz n n' c : Nat} {ty : TypeId} {A : Option Addr} {cs : List Value} (h : w.ownsRow lo ty sz (.slice A n c) n' cs) (hk : ∀ g, A = some g → w'.heap[g.block]? = w.heap[g.block]?) : w'.ownsRow lo ty sz (.slice A n c) n' cs := by
  refine ⟨h.1, ?_⟩
  rcases h.2 with h2 | ⟨g', cap, cur, e2, h1, h2, h3⟩
  · exact Or.inl h2
  · simp only [Value.slice.injEq] at e2
    obtain ⟨rfl, e3, rfl⟩ := e2
    exact Or.inr ⟨g', c, cur, by rw [e3], h1, (hk _ rfl).trans h2, h3⟩
theorem own_below {wr w' : World} {lo n n' c : Nat} {A : Option Addr} {cs : List Value} {o : Obj} (h : wr.ownsRow lo 87 4 (.slice A n c) n' cs) (hs : lo ≤ wr.heap.size) (hg : (wr.alloc o).grownBy w' (Value.slice A n c).ownBlock) : Below lo wr w' ∧ ∀ k, k < wr.heap.size → (∀ g, A = some g → k ≠ g.block) → w'.heap[k]? = wr.heap[k]? := by
  have hsz := hg.size
  simp only [World.size_alloc] at hsz
  have key : ∀ k, k < wr.heap.size → (∀ g, A = some g → k ≠ g.block) → w'.heap[k]? = wr.heap[k]? := fun k hk hne => by
    refine (hg.block k (by simp only [World.size_alloc]; omega) ?_).trans (heap_alloc_old _ _ hk)
    cases A with
    | none => intro e; cases e
    | some g => intro e; exact hne g rfl (Option.some.inj e)
  exact ⟨⟨hg.os, hg.tape, hg.output, by omega, fun k hk => key k (by omega) fun g e => by have := (own_at h e).1; omega⟩, key⟩
theorem tk_single (x : Tk) : tk [x] = tk1 x := by unfold tk; simp
theorem PsW.app1 {L B : Nat} {now : Int} {v : Value} {w wr w' : World} {A1 A1' A2 : Option Addr} {n1 c1 c1' n2 c2 : Nat} {l1 l2 : List Tk} {x : Tk} {o : Obj} (h : PsW L B now v w wr A1 n1 c1 A2 n2 c2 l1 l2) (hown : w'.ownsRow (w.heap.size + 2) 87 4 (.slice A1' (n1 + 1) c1') (n1 + 1) (tk l1 ++ tk1 x)) (hg : (wr.alloc o).grownBy w' (Value.slice A1 n1 c1).ownBlock)
    (hb : (Value.slice A1' (n1 + 1) c1').ownBlock = (Value.slice A1 n1 c1).ownBlock ∨ (Value.slice A1' (n1 + 1) c1').ownBlock = some (wr.alloc o).heap.size) : PsW L B now v w w' A1' (n1 + 1) c1' A2 n2 c2 (l1 ++ [x]) l2 := by
  obtain ⟨hbl, hk⟩ := own_below h.own1 h.sz hg
  have hsz := h.sz
  have lo1 : ∀ g, A1 = some g → w.heap.size + 2 ≤ g.block := fun g e => (own_at h.own1 e).1
  refine ⟨Below.trans h.md (Below.mono hbl (by omega)), (hbl.block _ (by omega)).trans h.bx, (hbl.block _ (by omega)).trans h.rs, Nat.le_trans h.sz hbl.size, by rw [tk_app, tk_single]; exact hown, own_keep h.own2 fun g' e => hk _ (own_at h.own2 e).2 fun g e1 c => h.ne g g' e1 e c.symm, fun g g' e1 e2 => ?_, by rw [List.length_append, h.len1]; rfl, h.len2⟩
  rcases hb with hb | hb
  · subst e1
    cases A1 with
    | none => cases hb
    | some g1 =>
      have : g.block = g1.block := Option.some.inj hb
      rw [this]; exact h.ne g1 g' rfl e2
  · subst e1
    have e3 : g.block = (wr.alloc o).heap.size := Option.some.inj hb
    simp only [World.size_alloc] at e3
    have := (own_at h.own2 e2).2
    omega
theorem PsW.app2 {L B : Nat} {now : Int} {v : Value} {w wr w' : World} {A1 A2 A2' : Option Addr} {n1 c1 c2' n2 c2 : Nat} {l1 l2 : List Tk} {x : Tk} {o : Obj} (h : PsW L B now v w wr A1 n1 c1 A2 n2 c2 l1 l2) (hown : w'.ownsRow (w.heap.size + 2) 87 4 (.slice A2' (n2 + 1) c2') (n2 + 1) (tk l2 ++ tk1 x)) (hg : (wr.alloc o).grownBy w' (Value.slice A2 n2 c2).ownBlock)
    (hb : (Value.slice A2' (n2 + 1) c2').ownBlock = (Value.slice A2 n2 c2).ownBlock ∨ (Value.slice A2' (n2 + 1) c2').ownBlock = some (wr.alloc o).heap.size) : PsW L B now v w w' A1 n1 c1 A2' (n2 + 1) c2' l1 (l2 ++ [x]) := by
  have h' : PsW L B now v w wr A2 n2 c2 A1 n1 c1 l2 l1 := ⟨h.md, h.bx, h.rs, h.sz, h.own2, h.own1, fun g g' e1 e2 c => h.ne g' g e2 e1 c.symm, h.len2, h.len1⟩
  have r := h'.app1 hown hg hb
  exact ⟨r.md, r.bx, r.rs, r.sz, r.own2, r.own1, fun g g' e1 e2 c => r.ne g' g e2 e1 c.symm, r.len2, r.len1⟩
theorem PsW.made {L B : Nat} {now : Int} {v : Value} {w wr w' : World} {A1 A2 : Option Addr} {n1 c1 n2 c2 : Nat} {l1 l2 : List Tk} (h : PsW L B now v w wr A1 n1 c1 A2 n2 c2 l1 l2) (m : Made wr w') : PsW L B now v w w' A1 n1 c1 A2 n2 c2 l1 l2 :=
  have hsz := h.sz
  ⟨Made.trans h.md m, (m.block _ (by omega)).trans h.bx, (m.block _ (by omega)).trans h.rs, Nat.le_trans h.sz m.size, own_keep h.own1 fun g e => m.block _ (own_at h.own1 e).2, own_keep h.own2 fun g e => m.block _ (own_at h.own2 e).2, h.ne, h.len1, h.len2⟩
theorem PsW.cells {L B : Nat} {now : Int} {v : Value} {w wr : World} {A1 A2 : Option Addr} {n1 c1 n2 c2 : Nat} {l1 l2 : List Tk} (h : PsW L B now v w wr A1 n1 c1 A2 n2 c2 l1 l2) : wr.cell? ⟨w.heap.size, 0, none⟩ = some (.int .i64 (L : Int)) ∧ wr.cell? ⟨w.heap.size, 1, none⟩ = some (.int .i64 (B : Int)) ∧ wr.cell? ⟨w.heap.size, 2, none⟩ = some (.int .i64 now) ∧ wr.cell? ⟨w.heap.size, 3, none⟩ = some v :=
  ⟨by rw [cell_of_row _ _ _ _ _ _ h.bx]; rfl, by rw [cell_of_row _ _ _ _ _ _ h.bx]; rfl, by rw [cell_of_row _ _ _ _ _ _ h.bx]; rfl, by rw [cell_of_row _ _ _ _ _ _ h.bx]; rfl⟩
theorem PsW.begin {L B : Nat} {now : Int} {v : Value} {w : World} : PsW L B now v w ((((w.alloc (.cells #[.int .i64 (L : Int), .int .i64 (B : Int), .int .i64 now, v] 77)).alloc (.cells #[.int .i64 0, .int .i64 0, .int .i64 0, .slice none 0 0] 77)).alloc (.cells #[] 87)).alloc (.cells #[] 87)) (some ⟨w.heap.size + 1 + 1, 0, none⟩) 0 0 (some ⟨w.heap.size + 1 + 1 + 1, 0, none⟩) 0 0 [] [] := by
  have hs : ∀ (w : World) (o : Obj), (w.alloc o).heap.size = w.heap.size + 1 := fun w o => World.size_alloc w o
  refine ⟨((((Made.refl w).alloc (Nat.le_refl _) _).alloc (by simp) _).alloc (by simp; omega) _).alloc (by simp; omega) _, ?_, ?_, by simp only [World.size_alloc]; omega, ⟨rfl, Or.inr ⟨w.heap.size + 1 + 1, 0, #[], rfl, Nat.le_refl _, ?_, Nat.le_refl _, Nat.zero_le _, rfl, rfl⟩⟩, ⟨rfl, Or.inr ⟨w.heap.size + 1 + 1 + 1, 0, #[], rfl, by omega, ?_, Nat.le_refl _, Nat.zero_le _, rfl, rfl⟩⟩, fun g g' e1 e2 => by cases e1; cases e2; show w.heap.size + 1 + 1 ≠ w.heap.size + 1 + 1 + 1; omega, rfl, rfl⟩
  · rw [heap_alloc_old _ _ (by simp only [World.size_alloc]; omega), heap_alloc_old _ _ (by simp only [World.size_alloc]; omega)]; exact heap_alloc2_old _ _ _
  · rw [heap_alloc_old _ _ (by simp only [World.size_alloc]; omega), heap_alloc_old _ _ (by simp only [World.size_alloc]; omega)]; exact heap_alloc2_new _ _ _
  · rw [heap_alloc_old _ _ (by simp only [World.size_alloc]; omega)]
    have := heap_alloc_new ((w.alloc (.cells #[.int .i64 (L : Int), .int .i64 (B : Int), .int .i64 now, v] 77)).alloc (.cells #[.int .i64 0, .int .i64 0, .int .i64 0, .slice none 0 0] 77)) (.cells #[] 87)
    rw [hs, hs] at this
    exact this
  · have := heap_alloc_new (((w.alloc (.cells #[.int .i64 (L : Int), .int .i64 (B : Int), .int .i64 now, v] 77)).alloc (.cells #[.int .i64 0, .int .i64 0, .int .i64 0, .slice none 0 0] 77)).alloc (.cells #[] 87)) (.cells #[] 87)
    rw [hs, hs, hs] at this
    exact this
set_option maxRecDepth 100000 in
set_option maxHeartbeats 4000000 in
theorem RPass_c (L B lo : Nat) (now to' : Int) (vl : Value) (l : List Tk) (w : World) (hL : L ≤ 8) (hB1 : 1 ≤ B) (hB6 : B ≤ 6) (hl : l.length ≤ 1000) (hto : now ≤ to') (h : Tks lo w vl l) :
    Calls Try.prog 34 #[RW L B now vl, .int .i64 to'] w fun e w' => ∃ v1 v2, e = .returned (.tuple #[RW L B to' v1, v2]) ∧ Tks w.heap.size w' v1 (l.filter fun x => !psR L B now to' x) ∧ Tks w.heap.size w' v2 (lsL (2 ^ B) (l.filter fun x => psR L B now to' x) (L + 1)) ∧ Made w w' := by
  obtain ⟨A, cap, rfl, h1, h2, h3⟩ := h
  have HT := Lib.hid h3
  clear h3
  unfold RW
  obtain ⟨n, hn⟩ : ∃ n, l.length = n := ⟨_, rfl⟩
  rw [hn] at h1 hl ⊢
  have HN := Lib.hid hn
  clear hn
  go_enter Try.func34, Try.ntmps34
  go_wp2_with fail
  have HB := Lib.hid (PsW.begin (L := L) (B := B) (now := now) (v := .slice A n cap) (w := w))
  generalize World.alloc (World.alloc (World.alloc (World.alloc w _) _) _) _ = wb at HB ⊢
  go_loopw [6, 7, 8] (fun sv gv i wr => ∃ (k n1 c1 n2 c2 : Nat) (A1 A2 : Option Addr), i = .int .i64 (k : Int) ∧ k ≤ n ∧ sv = .slice A1 n1 c1 ∧ gv = .slice A2 n2 c2 ∧ Hid (PsW L B now (.slice A n cap) w wr A1 n1 c1 A2 n2 c2 ((l.take k).filter fun x => !psR L B now to' x) ((l.take k).filter fun x => psR L B now to' x))) (fun _ _ i _ => (n - intOf i).toNat)
  case atStart => exact ⟨0, 0, 0, 0, 0, _, _, rfl, by omega, rfl, rfl, HB⟩
  case round =>
    clear HB
    obtain ⟨k, n1, c1, n2, c2, A1, A2, rfl, hk, rfl, rfl, HW⟩ := hrel
    obtain ⟨x0, x1, x2, x3⟩ := HW.out.cells
    by_cases hlt : k < n
    · have i2 : (k : Int) < (n : Int) := by omega
      have hkl : k < l.length := by have := HN.out; omega
      obtain ⟨⟨xt, xd, xl, xs⟩, hx⟩ : ∃ x, l[k]? = some x := ⟨_, List.getElem?_eq_getElem hkl⟩
      obtain ⟨g, rfl, hg, y0, y1, y2, y3⟩ := told_cell (HT.out.made HW.out.md) hx
      simp only at y0 y1 y2 y3
      have hk0 : (0 : Int) ≤ (k : Int) := by omega
      have hbd1 : n1 ≤ 1000 := by
        have h1 := HW.out.len1
        have h4 := List.length_filter_le (fun x => !psR L B now to' x) (l.take k)
        rw [List.length_take] at h4
        omega
      have hbd2 : n2 ≤ 1000 := by
        have h1 := HW.out.len2
        have h4 := List.length_filter_le (fun x => psR L B now to' x) (l.take k)
        rw [List.length_take] at h4
        omega
      have hsz := HW.out.sz
      have HTK : Hid (l.take (k + 1) = l.take k ++ [(xt, xd, xl, xs)]) := by
        show _ = _
        rw [List.take_add_one, hx]; rfl
      have HPS := Lib.hid (passed_c L B now to' xt xd xl xs (.slice (some ⟨g, 0, none⟩) n cap) wr.drew)
      obtain ⟨pb, hpb⟩ : ∃ pb, psR L B now to' (xt, xd, xl, xs) = pb := ⟨_, rfl⟩
      rw [hpb] at HPS
      have HPB := Lib.hid hpb
      have HKE : Hid (∀ w', Made wr w' → (w'.cell? ⟨w.heap.size, 0, none⟩ = some (.int .i64 (L : Int)) ∧ w'.cell? ⟨w.heap.size, 1, none⟩ = some (.int .i64 (B : Int)) ∧ w'.cell? ⟨w.heap.size, 2, none⟩ = some (.int .i64 now) ∧ w'.cell? ⟨w.heap.size, 3, none⟩ = some (.slice (some ⟨g, 0, none⟩) n cap)) ∧ w'.cell? ⟨g, k * 4, none⟩ = some (.int .i64 xt) ∧ w'.cell? ⟨g, k * 4 + 1, none⟩ = some (.int .i64 xd) ∧ w'.cell? ⟨g, k * 4 + 2, none⟩ = some (.int .i64 xl) ∧ w'.cell? ⟨g, k * 4 + 3, none⟩ = some (.int .i64 xs)) := by
        intro w' hm
        have q := (HW.out.made hm).cells
        have cc : ∀ {o : Nat} {u : Value}, wr.cell? ⟨g, o, none⟩ = some u → w'.cell? ⟨g, o, none⟩ = some u := fun {o u} h => (World.cell?_of_block (hm.block _ (Go.block_lt_of_cell h))).trans h
        exact ⟨q, cc y0, cc y1, cc y2, cc y3⟩
      clear hx hkl hpb
      go_upto_region 6 with fail
      go_region_held3 (fun w1 => (w1.cell? ⟨w.heap.size, 0, none⟩ = some (.int .i64 (L : Int)) ∧ w1.cell? ⟨w.heap.size, 1, none⟩ = some (.int .i64 (B : Int)) ∧ w1.cell? ⟨w.heap.size, 2, none⟩ = some (.int .i64 now) ∧ w1.cell? ⟨w.heap.size, 3, none⟩ = some (.slice (some ⟨g, 0, none⟩) n cap)) ∧ w1.cell? ⟨g, k * 4, none⟩ = some (.int .i64 xt) ∧ w1.cell? ⟨g, k * 4 + 1, none⟩ = some (.int .i64 xd) ∧ w1.cell? ⟨g, k * 4 + 2, none⟩ = some (.int .i64 xl) ∧ w1.cell? ⟨g, k * 4 + 3, none⟩ = some (.int .i64 xs)) (first | exact HKE.out _ (Made.refl _) | exact HKE.out _ (Made.drewN _ 1) | exact HKE.out _ (made_of (by assumption))) (first | (go_at_call 68; refine HPS.out.mono ?_; rintro e w3 ⟨rfl, hM3⟩; have HM3 := Lib.hid (Made.trans (Made.drewN wr 1) hM3); clear hM3))
      have HW3 := Lib.hid (HW.out.made HM3.out)
      obtain ⟨⟨z0, z1, z2, z3⟩, z4, z5, z6, z7⟩ := HKE.out _ HM3.out
      have hsz3 := HW3.out.sz
      clear x0 x1 x2 x3 y0 y1 y2 y3 HW HPS HKE HM3 hsz
      cases pb with
      | true =>
        have HF1 : Hid ((l.take (k + 1)).filter (fun x => !psR L B now to' x) = (l.take k).filter fun x => !psR L B now to' x) := by
          rw [HTK.out, List.filter_append]
          show _ = _
          simp [List.filter_cons, HPB.out]
        have HF2 : Hid ((l.take (k + 1)).filter (fun x => psR L B now to' x) = (l.take k).filter (fun x => psR L B now to' x) ++ [(xt, xd, xl, xs)]) := by
          rw [HTK.out, List.filter_append]
          show _ = _
          simp [List.filter_cons, HPB.out]
        clear HTK HPB
        go_wp2_with (at_builtin; (refine wpList_appz _ rfl (.tmp 26) (.tmp 32) 75 rfl (w.heap.size + 2) 87 (.agg #[.int .i64 0, .int .i64 0, .int .i64 0, .int .i64 0]) 4 32 elem_tkr (.slice A2 n2 c2) n2 (tk ((l.take k).filter fun x => psR L B now to' x)) (by simp [Act.eval, Act.put]) (World.ownsRow.alloc HW3.out.own2 _) (some ⟨w3.heap.size, 0, none⟩) 1 1 (tk1 (xt, xd, xl, xs)) (by simp [Act.eval, Act.put]) (reads4 w3 _ _ _ _) (by simp [tk1, Value.oneCell']) (by unfold maxLen; omega) (by omega) (by simp only [World.size_alloc]; omega) ?_; intro A6 c6 w6 hown hgrow hbk; have HW6 := Lib.hid (HW3.out.app2 hown hgrow hbk); clear hown hgrow hbk))
        go_roundw
        case rel => exact ⟨k + 1, n1, c1, n2 + 1, c6, A1, A6, by go_num, by omega, rfl, rfl, by rw [HF1.out, HF2.out]; exact HW6⟩
        case measure => simp [intOf]; omega
      | false =>
        have HF1 : Hid ((l.take (k + 1)).filter (fun x => !psR L B now to' x) = (l.take k).filter (fun x => !psR L B now to' x) ++ [(xt, xd, xl, xs)]) := by
          rw [HTK.out, List.filter_append]
          show _ = _
          simp [List.filter_cons, HPB.out]
        have HF2 : Hid ((l.take (k + 1)).filter (fun x => psR L B now to' x) = (l.take k).filter (fun x => psR L B now to' x)) := by
          rw [HTK.out, List.filter_append]
          show _ = _
          simp [List.filter_cons, HPB.out]
        clear HTK HPB
        go_wp2_with (at_builtin; (refine wpList_appz _ rfl (.tmp 34) (.tmp 40) 75 rfl (w.heap.size + 2) 87 (.agg #[.int .i64 0, .int .i64 0, .int .i64 0, .int .i64 0]) 4 32 elem_tkr (.slice A1 n1 c1) n1 (tk ((l.take k).filter fun x => !psR L B now to' x)) (by simp [Act.eval, Act.put]) (World.ownsRow.alloc HW3.out.own1 _) (some ⟨w3.heap.size, 0, none⟩) 1 1 (tk1 (xt, xd, xl, xs)) (by simp [Act.eval, Act.put]) (reads4 w3 _ _ _ _) (by simp [tk1, Value.oneCell']) (by unfold maxLen; omega) (by omega) (by simp only [World.size_alloc]; omega) ?_; intro A6 c6 w6 hown hgrow hbk; have HW6 := Lib.hid (HW3.out.app1 hown hgrow hbk); clear hown hgrow hbk))
        go_roundw
        case rel => exact ⟨k + 1, n1 + 1, c6, n2, c2, A6, A2, by go_num, by omega, rfl, rfl, by rw [HF1.out, HF2.out]; exact HW6⟩
        case measure => simp [intOf]; omega
    · obtain rfl : k = n := by omega
      have hfl : l.take k = l := List.take_of_length_le (by have := HN.out; omega)
      have hW := HW.out
      rw [hfl] at hW
      have HW2 := Lib.hid hW
      clear hW hfl HW
      have hlen2 : (l.filter fun x => psR L B now to' x).length ≤ 1000 := by
        have h4 := List.length_filter_le (fun x => psR L B now to' x) l
        have := HN.out
        omega
      have HLI := Lib.hid (Lists_c L B (w.heap.size + 2) now (.slice A k cap) (.slice A2 n2 c2) _ wr hL hB1 hB6 hlen2 (Tks.of_owns HW2.out.own2 HW2.out.len2))
      unfold RW at HLI
      have HSZ := Lib.hid (show (Try.prog.info? 77).map (·.size) = some 4 by kernel_rfl)
      clear hlen2
      go_wp2_with (first | (refine wpList_load_row rfl 77 (.tmp 2) rfl w.heap.size (by simp [Act.eval, Act.put]) 77 #[.int .i64 (L : Int), .int .i64 (B : Int), .int .i64 now, .slice A k cap] (0, 0) _ HW2.out.bx Try.underlying77 rfl HSZ.out ?_))
      refine HLI.out.mono ?_
      rintro e w4 ⟨v9, rfl, hT9, hM9⟩
      have HW4 := Lib.hid (HW2.out.made hM9)
      have HTG : Hid (Tks (w.heap.size + 2) w4 v9 (lsL (2 ^ B) (l.filter fun x => psR L B now to' x) (L + 1))) := hT9.mono HW2.out.sz
      have HTS : Hid (Tks (w.heap.size + 2) w4 (.slice A1 n1 c1) (l.filter fun x => !psR L B now to' x)) := Tks.of_owns HW4.out.own1 HW4.out.len1
      clear x0 x1 x2 x3 hM9 hT9 HLI HW2
      obtain ⟨x0, x1, x2, _⟩ := HW4.out.cells
      by_cases hlt2 : now < to'
      · have z2 : w4.frozen? ⟨w.heap.size, 2, none⟩ = false := frozen_of_row _ _ _ _ _ HW4.out.bx
        have HB5 : Hid ((w4.setCell ⟨w.heap.size, 2, none⟩ (.int .i64 to')).heap[w.heap.size]? = some (.cells #[.int .i64 (L : Int), .int .i64 (B : Int), .int .i64 to', .slice A k cap] 77 (0, 0))) := by
          show _ = _
          rw [setCell_eq_setRow _ _ _ _ _ _ _ HW4.out.bx, heap_setRow_same _ _ _ _ _ _ HW4.out.bx]; rfl
        have HR5 : Hid ((w4.setCell ⟨w.heap.size, 2, none⟩ (.int .i64 to')).heap[w.heap.size + 1]? = some (.cells #[.int .i64 0, .int .i64 0, .int .i64 0, .slice none 0 0] 77 (0, 0))) := Lib.hid ((Cell.heap_setCell_other _ _ _ _ _ (by omega)).trans HW4.out.rs)
        have HK5 : Hid (∀ k, w.heap.size + 2 ≤ k → (w4.setCell ⟨w.heap.size, 2, none⟩ (.int .i64 to')).heap[k]? = w4.heap[k]?) := Lib.hid fun k hk => Cell.heap_setCell_other _ _ _ _ _ (by omega)
        have HM5 : Hid (Made w (w4.setCell ⟨w.heap.size, 2, none⟩ (.int .i64 to'))) := Lib.hid (Below.setCell HW4.out.md (Nat.le_refl _) _)
        go_upto_region 12 with fail
        clear x0 x1 x2 z2 HW4
        generalize w4.setCell ⟨w.heap.size, 2, none⟩ (.int .i64 to') = w5 at HB5 HR5 HK5 HM5 ⊢
        have hg0 : (w5.setCell ⟨w.heap.size, 3, none⟩ (.slice A1 n1 c1)).heap[w.heap.size]? = some (.cells #[.int .i64 (L : Int), .int .i64 (B : Int), .int .i64 to', .slice A1 n1 c1] 77 (0, 0)) := by
          rw [setCell_eq_setRow _ _ _ _ _ _ _ HB5.out, heap_setRow_same _ _ _ _ _ _ HB5.out]; rfl
        have hg1 : (w5.setCell ⟨w.heap.size, 3, none⟩ (.slice A1 n1 c1)).heap[w.heap.size + 1]? = some (.cells #[.int .i64 0, .int .i64 0, .int .i64 0, .slice none 0 0] 77 (0, 0)) := (Cell.heap_setCell_other _ _ _ _ _ (by omega)).trans HR5.out
        have hk6 : ∀ k, w.heap.size + 2 ≤ k → (w5.setCell ⟨w.heap.size, 3, none⟩ (.slice A1 n1 c1)).heap[k]? = w4.heap[k]? := fun k hk => (Cell.heap_setCell_other _ _ _ _ _ (by omega)).trans (HK5.out k hk)
        have hm6 : Made w (w5.setCell ⟨w.heap.size, 3, none⟩ (.slice A1 n1 c1)) := Below.setCell HM5.out (Nat.le_refl _) _
        have x3 : w5.cell? ⟨w.heap.size, 3, none⟩ = some (.slice A k cap) := by rw [cell_of_row _ _ _ _ _ _ HB5.out]; rfl
        have z3 : w5.frozen? ⟨w.heap.size, 3, none⟩ = false := frozen_of_row _ _ _ _ _ HB5.out
        go_upto_region 13 with fail
        generalize w5.setCell ⟨w.heap.size, 3, none⟩ (.slice A1 n1 c1) = w6 at hg0 hg1 hk6 hm6 ⊢
        have HG0 := Lib.hid hg0
        have HG1 := Lib.hid hg1
        have HR1 : Hid ((w6.setRow (w.heap.size + 1) #[.int .i64 (L : Int), .int .i64 (B : Int), .int .i64 to', .slice A1 n1 c1]).heap[w.heap.size + 1]? = some (.cells #[.int .i64 (L : Int), .int .i64 (B : Int), .int .i64 to', .slice A1 n1 c1] 77 (0, 0))) := Lib.hid (heap_setRow_same _ _ _ _ _ _ hg1)
        have hk7 : ∀ k, w.heap.size + 2 ≤ k → (w6.setRow (w.heap.size + 1) #[.int .i64 (L : Int), .int .i64 (B : Int), .int .i64 to', .slice A1 n1 c1]).heap[k]? = w4.heap[k]? := fun k hk => (heap_setRow_other _ _ _ _ (by omega)).trans (hk6 k hk)
        have HT7 : Hid (Tks w.heap.size (w6.setRow (w.heap.size + 1) #[.int .i64 (L : Int), .int .i64 (B : Int), .int .i64 to', .slice A1 n1 c1]) (.slice A1 n1 c1) (l.filter fun x => !psR L B now to' x)) := (HTS.out.but hk7).mono (by omega)
        have HT8 : Hid (Tks w.heap.size (w6.setRow (w.heap.size + 1) #[.int .i64 (L : Int), .int .i64 (B : Int), .int .i64 to', .slice A1 n1 c1]) v9 (lsL (2 ^ B) (l.filter fun x => psR L B now to' x) (L + 1))) := (HTG.out.but fun k hk => hk7 k (by omega)).mono (by omega)
        have HM7 : Hid (Made w (w6.setRow (w.heap.size + 1) #[.int .i64 (L : Int), .int .i64 (B : Int), .int .i64 to', .slice A1 n1 c1])) := Go.Proofs.Ytndpkonihcebeaa.Below.setRow hm6 (by omega) _
        clear hg0 hg1 hk6 hm6 hk7 x3 z3 HB5 HR5 HK5 HM5 HTS HTG
        go_wp2_with (first | (refine wpList_load_row rfl 77 (.tmp 2) rfl w.heap.size (by simp [Act.eval, Act.put]) 77 #[.int .i64 (L : Int), .int .i64 (B : Int), .int .i64 to', .slice A1 n1 c1] (0, 0) _ HG0.out Try.underlying77 rfl HSZ.out ?_) | (refine wpList_store_row rfl 77 (.tmp 4) (.tmp 53) rfl (w.heap.size + 1) #[.int .i64 (L : Int), .int .i64 (B : Int), .int .i64 to', .slice A1 n1 c1] (by simp [Act.eval, Act.put]) (by simp [Act.eval, Act.put]) 77 _ HG1.out HSZ.out rfl (by simp [Value.oneCell']) ?_))
        refine bodyPost_ret (results_cell_tmp1 rfl _ _ (w.heap.size + 1) 77 #[.int .i64 (L : Int), .int .i64 (B : Int), .int .i64 to', .slice A1 n1 c1] (0, 0) _ ?hp HR1.out Try.underlying77 rfl HSZ.out) rfl ?_
        case hp => simp [Act.put]
        refine ⟨_, v9, ?he, HT7.out, HT8.out, HM7.out⟩
        case he => simp [Act.put]
      · obtain rfl : now = to' := by omega
        have i5 : ¬ now < now := by omega
        have HB5 := Lib.hid HW4.out.bx
        have HR5 := Lib.hid HW4.out.rs
        have HK5 : Hid (∀ k, w.heap.size + 2 ≤ k → w4.heap[k]? = w4.heap[k]?) := Lib.hid fun k hk => rfl
        have HM5 := Lib.hid HW4.out.md
        go_upto_region 12 with fail
        clear x0 x1 x2 HW4 i5
        have hg0 : (w4.setCell ⟨w.heap.size, 3, none⟩ (.slice A1 n1 c1)).heap[w.heap.size]? = some (.cells #[.int .i64 (L : Int), .int .i64 (B : Int), .int .i64 now, .slice A1 n1 c1] 77 (0, 0)) := by
          rw [setCell_eq_setRow _ _ _ _ _ _ _ HB5.out, heap_setRow_same _ _ _ _ _ _ HB5.out]; rfl
        have hg1 : (w4.setCell ⟨w.heap.size, 3, none⟩ (.slice A1 n1 c1)).heap[w.heap.size + 1]? = some (.cells #[.int .i64 0, .int .i64 0, .int .i64 0, .slice none 0 0] 77 (0, 0)) := (Cell.heap_setCell_other _ _ _ _ _ (by omega)).trans HR5.out
        have hk6 : ∀ k, w.heap.size + 2 ≤ k → (w4.setCell ⟨w.heap.size, 3, none⟩ (.slice A1 n1 c1)).heap[k]? = w4.heap[k]? := fun k hk => (Cell.heap_setCell_other _ _ _ _ _ (by omega)).trans rfl
        have hm6 : Made w (w4.setCell ⟨w.heap.size, 3, none⟩ (.slice A1 n1 c1)) := Below.setCell HM5.out (Nat.le_refl _) _
        have x3 : w4.cell? ⟨w.heap.size, 3, none⟩ = some (.slice A k cap) := by rw [cell_of_row _ _ _ _ _ _ HB5.out]; rfl
        have z3 : w4.frozen? ⟨w.heap.size, 3, none⟩ = false := frozen_of_row _ _ _ _ _ HB5.out
        go_upto_region 13 with fail
        generalize w4.setCell ⟨w.heap.size, 3, none⟩ (.slice A1 n1 c1) = w6 at hg0 hg1 hk6 hm6 ⊢
        have HG0 := Lib.hid hg0
        have HG1 := Lib.hid hg1
        have HR1 : Hid ((w6.setRow (w.heap.size + 1) #[.int .i64 (L : Int), .int .i64 (B : Int), .int .i64 now, .slice A1 n1 c1]).heap[w.heap.size + 1]? = some (.cells #[.int .i64 (L : Int), .int .i64 (B : Int), .int .i64 now, .slice A1 n1 c1] 77 (0, 0))) := Lib.hid (heap_setRow_same _ _ _ _ _ _ hg1)
        have hk7 : ∀ k, w.heap.size + 2 ≤ k → (w6.setRow (w.heap.size + 1) #[.int .i64 (L : Int), .int .i64 (B : Int), .int .i64 now, .slice A1 n1 c1]).heap[k]? = w4.heap[k]? := fun k hk => (heap_setRow_other _ _ _ _ (by omega)).trans (hk6 k hk)
        have HT7 : Hid (Tks w.heap.size (w6.setRow (w.heap.size + 1) #[.int .i64 (L : Int), .int .i64 (B : Int), .int .i64 now, .slice A1 n1 c1]) (.slice A1 n1 c1) (l.filter fun x => !psR L B now now x)) := (HTS.out.but hk7).mono (by omega)
        have HT8 : Hid (Tks w.heap.size (w6.setRow (w.heap.size + 1) #[.int .i64 (L : Int), .int .i64 (B : Int), .int .i64 now, .slice A1 n1 c1]) v9 (lsL (2 ^ B) (l.filter fun x => psR L B now now x) (L + 1))) := (HTG.out.but fun k hk => hk7 k (by omega)).mono (by omega)
        have HM7 : Hid (Made w (w6.setRow (w.heap.size + 1) #[.int .i64 (L : Int), .int .i64 (B : Int), .int .i64 now, .slice A1 n1 c1])) := Go.Proofs.Ytndpkonihcebeaa.Below.setRow hm6 (by omega) _
        clear hg0 hg1 hk6 hm6 hk7 x3 z3 HB5 HR5 HK5 HM5 HTS HTG
        go_wp2_with (first | (refine wpList_load_row rfl 77 (.tmp 2) rfl w.heap.size (by simp [Act.eval, Act.put]) 77 #[.int .i64 (L : Int), .int .i64 (B : Int), .int .i64 now, .slice A1 n1 c1] (0, 0) _ HG0.out Try.underlying77 rfl HSZ.out ?_) | (refine wpList_store_row rfl 77 (.tmp 4) (.tmp 53) rfl (w.heap.size + 1) #[.int .i64 (L : Int), .int .i64 (B : Int), .int .i64 now, .slice A1 n1 c1] (by simp [Act.eval, Act.put]) (by simp [Act.eval, Act.put]) 77 _ HG1.out HSZ.out rfl (by simp [Value.oneCell']) ?_))
        refine bodyPost_ret (results_cell_tmp1 rfl _ _ (w.heap.size + 1) 77 #[.int .i64 (L : Int), .int .i64 (B : Int), .int .i64 now, .slice A1 n1 c1] (0, 0) _ ?hp HR1.out Try.underlying77 rfl HSZ.out) rfl ?_
        case hp => simp [Act.put]
        refine ⟨_, v9, ?he, HT7.out, HT8.out, HM7.out⟩
        case he => simp [Act.put]
end Go.Proofs.Ytndpkonihcebeaa.Whl

/- Package knellref10, walked: Peek. -/
namespace Go.Proofs.Ytndpkonihcebeaa.Whl
open Go.RowKit Go.Proofs.Ytndpkonihcebeaa Go.Proofs.Ytndpkonihcebeaa.Cell Go.Proofs.Ytndpkonihcebeaa.Seq Go.Proofs.Ytndpkonihcebeaa.Num Go.Proofs.Ytndpkonihcebeaa.SetN Go.Proofs.Ytndpkonihcebeaa.Dig Go.Proofs.Ytndpkonihcebeaa.Bits
set_option linter.unusedVariables false
set_option linter.unusedSimpArgs false

/-- One ticket is looked at. -/
def stp (dg : Int) (lv L : Nat) (best : Int) (x : Tk) : Int := if x.2.2.1 = (lv : Int) ∧ (dg < x.2.2.2 ∨ lv = L) ∧ (best < 0 ∨ x.2.2.2 < best) then x.2.2.2 else best
/-- The least slot of a level that is behind the time. -/
def bst (dg : Int) (lv L : Nat) (l : List Tk) : Int := l.foldl (stp dg lv L) (-1)
theorem bst_succ (dg : Int) (lv L : Nat) {l : List Tk} {k : Nat} {x : Tk} (h : l[k]? = some x) : bst dg lv L (l.take (k + 1)) = stp dg lv L (bst dg lv L (l.take k)) x := by
  unfold bst
  rw [List.take_add_one, h, List.foldl_append]; rfl
theorem bst_bd (dg : Int) (lv L : Nat) : ∀ (l : List Tk), (∀ x ∈ l, 0 ≤ x.2.2.2 ∧ x.2.2.2 < 64) → -1 ≤ bst dg lv L l ∧ bst dg lv L l < 64 := by
  have key : ∀ (l : List Tk) (b : Int), -1 ≤ b → b < 64 → (∀ x ∈ l, 0 ≤ x.2.2.2 ∧ x.2.2.2 < 64) → -1 ≤ l.foldl (stp dg lv L) b ∧ l.foldl (stp dg lv L) b < 64 := by
    intro l
    induction l with
    | nil => intro b h1 h2 _; exact ⟨h1, h2⟩
    | cons x r ih =>
      intro b h1 h2 h
      have hx := h x List.mem_cons_self
      rw [List.foldl_cons]
      refine ih _ ?_ ?_ fun y hy => h y (List.mem_cons_of_mem _ hy)
      · unfold stp; split <;> omega
      · unfold stp; split <;> omega
  intro l h
  exact key l (-1) (by omega) (by omega) h
/-- What the document's Peek tells, from a level on. -/
noncomputable def pkD (L B : Nat) (now : Int) (l : List Tk) : Nat → Nat → Int
  | 0, lv => if 0 ≤ bst (dig now lv B) lv L l then (flo now lv B : Int) + ((2 ^ (B * lv) : Nat) : Int) else -1
  | d + 1, lv => if 0 ≤ bst (dig now lv B) lv L l then (flo now ((lv : Int) + 1) B : Int) + bst (dig now lv B) lv L l * ((2 ^ (B * lv) : Nat) : Int) else pkD L B now l d (lv + 1)
set_option maxRecDepth 100000 in
set_option maxHeartbeats 4000000 in
theorem RPeek_c (L B lo : Nat) (now : Int) (vl : Value) (l : List Tk) (w : World) (hL : L ≤ 8) (hB1 : 1 ≤ B) (hB6 : B ≤ 6) (hLB : B * L ≤ 20) (hl : l.length ≤ 1000) (hsl : ∀ x ∈ l, 0 ≤ x.2.2.2 ∧ x.2.2.2 < 64) (h : Tks lo w vl l) :
    Calls Try.prog 36 #[RW L B now vl] w fun e w' => e = .returned (.int .i64 (pkD L B now l L 0)) ∧ Made w w' := by
  obtain ⟨A, cap, rfl, h1, h2, h3⟩ := h
  have HT := Lib.hid h3
  have HSL := Lib.hid hsl
  clear h3 hsl
  unfold RW
  obtain ⟨n, hn⟩ : ∃ n, l.length = n := ⟨_, rfl⟩
  rw [hn] at h1 hl ⊢
  have HN := Lib.hid hn
  clear hn
  have HDG := Lib.hid (fun (lv : Nat) w => Ref5.Digit_c now (lv : Int) (B : Int) w)
  have HFL := Lib.hid (fun (lv : Int) w => Ref5.Floor_c now lv (B : Int) w)
  obtain ⟨S, hS, hS64⟩ : ∃ S : Nat, S = 2 ^ B ∧ S ≤ 64 := ⟨2 ^ B, rfl, by have := Nat.pow_le_pow_right (n := 2) (by decide) hB6; omega⟩
  have HSZ : Hid (∀ w : World, Calls Try.prog 74 #[.int .i64 (B : Int)] w fun e w' => e = .returned (.int .i64 (S : Int)) ∧ w = w') := fun w => by
    have := Ref5.Size_c (B : Int) w
    rw [Num.wd_nat B hB1 hB6, ← hS] at this
    exact this
  have HS := Lib.hid hS
  clear hS
  go_enter Try.func36, Try.ntmps36
  go_wp2_with fail
  have hm0 : Made w (w.alloc (.cells #[.int .i64 (L : Int), .int .i64 (B : Int), .int .i64 now, .slice A n cap] 77)) := (Made.refl w).alloc (Nat.le_refl _) _
  have hb0 : (w.alloc (.cells #[.int .i64 (L : Int), .int .i64 (B : Int), .int .i64 now, .slice A n cap] 77)).heap[w.heap.size]? = some (.cells #[.int .i64 (L : Int), .int .i64 (B : Int), .int .i64 now, .slice A n cap] 77 (0, 0)) := heap_alloc_new _ _
  generalize w.alloc _ = wb at hm0 hb0 ⊢
  have HM0 := Lib.hid hm0
  have HB0 := Lib.hid hb0
  clear hm0 hb0
  go_loopw [3, 4] (fun ov i wr => ∃ (lv : Nat) (one : Nat), i = .int .i64 (lv : Int) ∧ lv ≤ L + 1 ∧ ov = .int .i64 (one : Int) ∧ Hid (one = 2 ^ (B * lv)) ∧ one ≤ 67108864 ∧ Hid (Made w wr) ∧ Hid (wr.heap[w.heap.size]? = some (.cells #[.int .i64 (L : Int), .int .i64 (B : Int), .int .i64 now, .slice A n cap] 77 (0, 0))) ∧ Hid (lv ≤ L → pkD L B now l L 0 = pkD L B now l (L - lv) lv) ∧ Hid (lv = L + 1 → pkD L B now l L 0 = -1)) (fun _ i _ => (L + 1 - intOf i).toNat)
  case atStart => exact ⟨0, 1, rfl, by omega, rfl, by rw [Nat.mul_zero]; exact Lib.hid rfl, by omega, HM0, HB0, Lib.hid fun _ => rfl, Lib.hid fun c => by omega⟩
  case round =>
    clear HM0 HB0
    obtain ⟨lv, one, rfl, hlv, rfl, HO, hone, HM, HB, HP, HQ⟩ := hrel
    have x0 : wr.cell? ⟨w.heap.size, 0, none⟩ = some (.int .i64 (L : Int)) := by rw [cell_of_row _ _ _ _ _ _ HB.out]; rfl
    by_cases hlt : lv ≤ L
    · have i2 : (lv : Int) ≤ (L : Int) := by omega
      obtain ⟨dg, hdg, hdg0⟩ : ∃ dg : Int, (dig now lv B : Int) = dg ∧ 0 ≤ dg := ⟨_, rfl, by omega⟩
      have HD := Lib.hid hdg
      clear hdg
      go_upto_region 7 with fail
      go_loopw [5, 6] (fun bv i wz => ∃ (k : Nat) (best : Int), i = .int .i64 (k : Int) ∧ k ≤ n ∧ bv = .int .i64 best ∧ Hid (best = bst dg lv L (l.take k)) ∧ -1 ≤ best ∧ best < 64 ∧ Hid (Made w wz) ∧ Hid (wz.heap[w.heap.size]? = some (.cells #[.int .i64 (L : Int), .int .i64 (B : Int), .int .i64 now, .slice A n cap] 77 (0, 0)))) (fun _ i _ => (n - intOf i).toNat)
      case atStart => exact ⟨0, -1, rfl, by omega, rfl, Lib.hid rfl, by omega, by omega, HM, HB⟩
      case round =>
        clear HM HB x0
        obtain ⟨k, best, rfl, hk, rfl, HBE, hbe0, hbe1, HM, HB⟩ := hrel
        have x0 : wr.cell? ⟨w.heap.size, 0, none⟩ = some (.int .i64 (L : Int)) := by rw [cell_of_row _ _ _ _ _ _ HB.out]; rfl
        have x1 : wr.cell? ⟨w.heap.size, 1, none⟩ = some (.int .i64 (B : Int)) := by rw [cell_of_row _ _ _ _ _ _ HB.out]; rfl
        have x2 : wr.cell? ⟨w.heap.size, 2, none⟩ = some (.int .i64 now) := by rw [cell_of_row _ _ _ _ _ _ HB.out]; rfl
        have x3 : wr.cell? ⟨w.heap.size, 3, none⟩ = some (.slice A n cap) := by rw [cell_of_row _ _ _ _ _ _ HB.out]; rfl
        by_cases hlt : k < n
        · have i3 : (k : Int) < (n : Int) := by omega
          have hkl : k < l.length := by have := HN.out; omega
          obtain ⟨⟨xt, xd, xl, xs⟩, hx⟩ : ∃ x, l[k]? = some x := ⟨_, List.getElem?_eq_getElem hkl⟩
          obtain ⟨hxs0, hxs1⟩ := HSL.out _ (List.mem_of_getElem? hx)
          simp only at hxs0 hxs1
          obtain ⟨g, rfl, hg, y0, y1, y2, y3⟩ := told_cell (HT.out.made HM.out) hx
          simp only at y0 y1 y2 y3
          have hk0 : (0 : Int) ≤ (k : Int) := by omega
          have HNX : Hid (bst dg lv L (l.take (k + 1)) = stp dg lv L best (xt, xd, xl, xs)) := by
            rw [HBE.out]; exact Lib.hid (bst_succ dg lv L hx)
          clear hx hkl HBE
          go_upto_region 10 with fail
          have hmx : Made wr (wr.alloc (.cells #[.int .i64 xt, .int .i64 xd, .int .i64 xl, .int .i64 xs] 87)) := (Made.refl _).alloc (Nat.le_refl _) _
          have hbx : (wr.alloc (.cells #[.int .i64 xt, .int .i64 xd, .int .i64 xl, .int .i64 xs] 87)).heap[wr.heap.size]? = some (.cells #[.int .i64 xt, .int .i64 xd, .int .i64 xl, .int .i64 xs] 87 (0, 0)) := heap_alloc_new _ _
          have hbw := (hmx.block _ (Array.getElem?_eq_some_iff.1 HB.out).1).trans HB.out
          generalize wr.alloc _ = wx at hmx hbx hbw ⊢
          have HMX := Lib.hid (Made.trans HM.out hmx)
          generalize wr.heap.size = gx at hbx ⊢
          obtain ⟨O0, hO0⟩ : ∃ o, o = Obj.cells #[.int .i64 (L : Int), .int .i64 (B : Int), .int .i64 now, .slice (some ⟨g, 0, none⟩) n cap] 77 (0, 0) := ⟨_, rfl⟩
          obtain ⟨OX, hOX⟩ : ∃ o, o = Obj.cells #[.int .i64 xt, .int .i64 xd, .int .i64 xl, .int .i64 xs] 87 (0, 0) := ⟨_, rfl⟩
          have hS0 : (Kept wx [(w.heap.size, O0), (gx, OX)]) wx.drew := (Kept.cons (hO0 ▸ hbw) (Kept.cons (hOX ▸ hbx) (Kept.nil (Made.refl _)))).drew
          haveI : Nonempty (Cls (Kept wx [(w.heap.size, O0), (gx, OX)])) := ⟨⟨_, hS0⟩⟩
          have HK0 : Hid (∀ m : Cls (Kept wx [(w.heap.size, O0), (gx, OX)]), m.val.heap[w.heap.size]? = some (Obj.cells #[.int .i64 (L : Int), .int .i64 (B : Int), .int .i64 now, .slice (some ⟨g, 0, none⟩) n cap] 77 (0, 0))) := fun m => by rw [← hO0]; exact m.ok.at 0 rfl
          have HK1 : Hid (∀ m : Cls (Kept wx [(w.heap.size, O0), (gx, OX)]), m.val.heap[gx]? = some (Obj.cells #[.int .i64 xt, .int .i64 xd, .int .i64 xl, .int .i64 xs] 87 (0, 0))) := fun m => by rw [← hOX]; exact m.ok.at 1 rfl
          have k0 : ∀ m : Cls (Kept wx [(w.heap.size, O0), (gx, OX)]), m.val.cell? ⟨w.heap.size, 0, none⟩ = some (.int .i64 (L : Int)) := fun m => by rw [cell_of_row _ _ _ _ _ _ (HK0.out m)]; rfl
          have k1 : ∀ m : Cls (Kept wx [(w.heap.size, O0), (gx, OX)]), m.val.cell? ⟨w.heap.size, 1, none⟩ = some (.int .i64 (B : Int)) := fun m => by rw [cell_of_row _ _ _ _ _ _ (HK0.out m)]; rfl
          have k2 : ∀ m : Cls (Kept wx [(w.heap.size, O0), (gx, OX)]), m.val.cell? ⟨w.heap.size, 2, none⟩ = some (.int .i64 now) := fun m => by rw [cell_of_row _ _ _ _ _ _ (HK0.out m)]; rfl
          have k3 : ∀ m : Cls (Kept wx [(w.heap.size, O0), (gx, OX)]), m.val.cell? ⟨gx, 3, none⟩ = some (.int .i64 xs) := fun m => by rw [cell_of_row _ _ _ _ _ _ (HK1.out m)]; rfl
          have HDC : Hid (∀ m : Cls (Kept wx [(w.heap.size, O0), (gx, OX)]), Calls Try.prog 72 #[.int .i64 now, .int .i64 (lv : Int), .int .i64 (B : Int)] m.val fun e w' => e = .returned (.int .i64 dg) ∧ Made m.val w') := fun m => by
            have := HDG.out lv m.val
            rw [HD.out] at this
            exact this
          clear hmx hbx hbw x0 x1 x2 x3 y0 y1 y2 y3 HM
          have HB0 := Lib.hid (And.intro hO0 hOX)
          clear hO0 hOX
          by_cases hds : dg < xs
          · refine wp_region_sub (Kept wx [(w.heap.size, O0), (gx, OX)]) (by kernel_rfl) (by kernel_rfl) hS0 ?_
            repeat (go_big_quiet_step (first | (go_at_call 72; exact Calls.sub (HDC.out _) (fun _ h k => h.later k))))
            refine wpQuiet_nil ?_
            rintro w7 ⟨m7, hm7⟩
            have hS7 : Kept wx [(w.heap.size, O0), (gx, OX)] w7 := hm7 ▸ m7.ok
            clear hm7 m7
            have HM7 : Hid (Made w w7) := Made.trans HMX.out hS7.md
            have HB7 : Hid (w7.heap[w.heap.size]? = some (.cells #[.int .i64 (L : Int), .int .i64 (B : Int), .int .i64 now, .slice (some ⟨g, 0, none⟩) n cap] 77 (0, 0))) := by
              rw [← HB0.out.1]; exact Lib.hid (hS7.at 0 rfl)
            have hx7 : w7.heap[gx]? = some (.cells #[.int .i64 xt, .int .i64 xd, .int .i64 xl, .int .i64 xs] 87 (0, 0)) := by
              rw [← HB0.out.2]; exact hS7.at 1 rfl
            have y2 : w7.cell? ⟨gx, 2, none⟩ = some (.int .i64 xl) := by rw [cell_of_row _ _ _ _ _ _ hx7]; rfl
            have y3 : w7.cell? ⟨gx, 3, none⟩ = some (.int .i64 xs) := by rw [cell_of_row _ _ _ _ _ _ hx7]; rfl
            clear hx7 hS7 hS0 HK0 HK1 k0 k1 k2 k3 HDC HB0 HMX this
            by_cases hxl : xl = (lv : Int)
            · by_cases hb0 : best < 0
              · have HST : Hid (bst dg lv L (l.take (k + 1)) = xs) := by
                  rw [HNX.out]
                  show _ = _
                  unfold stp
                  rw [if_pos ⟨hxl, Or.inl hds, Or.inl hb0⟩]
                clear HNX
                go_wp2_with fail
                go_roundw
                case rel => exact ⟨k + 1, xs, by go_num, by omega, rfl, Lib.hid HST.out.symm, by omega, by omega, HM7, HB7⟩
                case measure => simp [intOf]; omega
              · by_cases hb1 : xs < best
                · have HST : Hid (bst dg lv L (l.take (k + 1)) = xs) := by
                    rw [HNX.out]
                    show _ = _
                    unfold stp
                    rw [if_pos ⟨hxl, Or.inl hds, Or.inr hb1⟩]
                  clear HNX
                  go_wp2_with fail
                  go_roundw
                  case rel => exact ⟨k + 1, xs, by go_num, by omega, rfl, Lib.hid HST.out.symm, by omega, by omega, HM7, HB7⟩
                  case measure => simp [intOf]; omega
                · have HST : Hid (bst dg lv L (l.take (k + 1)) = best) := by
                    rw [HNX.out]
                    show _ = _
                    unfold stp
                    rw [if_neg (fun c => by rcases c.2.2 with c | c; exact hb0 c; exact hb1 c)]
                  clear HNX
                  go_wp2_with fail
                  go_roundw
                  case rel => exact ⟨k + 1, best, by go_num, by omega, rfl, Lib.hid HST.out.symm, by omega, by omega, HM7, HB7⟩
                  case measure => simp [intOf]; omega
            · have HST : Hid (bst dg lv L (l.take (k + 1)) = best) := by
                rw [HNX.out]
                show _ = _
                unfold stp
                rw [if_neg (fun c => hxl c.1)]
              clear HNX
              go_wp2_with fail
              go_roundw
              case rel => exact ⟨k + 1, best, by go_num, by omega, rfl, Lib.hid HST.out.symm, by omega, by omega, HM7, HB7⟩
              case measure => simp [intOf]; omega
          · by_cases hlL : lv = L
            · have hlI : ((lv : Int) == (L : Int)) = true := by rw [beq_iff_eq]; omega
              have HLL := Lib.hid hlL
              clear hlL
              refine wp_region_sub (Kept wx [(w.heap.size, O0), (gx, OX)]) (by kernel_rfl) (by kernel_rfl) hS0 ?_
              repeat (go_big_quiet_step (first | (go_at_call 72; exact Calls.sub (HDC.out _) (fun _ h k => h.later k))))
              refine wpQuiet_nil ?_
              rintro w7 ⟨m7, hm7⟩
              have hS7 : Kept wx [(w.heap.size, O0), (gx, OX)] w7 := hm7 ▸ m7.ok
              clear hm7 m7
              have HM7 : Hid (Made w w7) := Made.trans HMX.out hS7.md
              have HB7 : Hid (w7.heap[w.heap.size]? = some (.cells #[.int .i64 (L : Int), .int .i64 (B : Int), .int .i64 now, .slice (some ⟨g, 0, none⟩) n cap] 77 (0, 0))) := by
                rw [← HB0.out.1]; exact Lib.hid (hS7.at 0 rfl)
              have hx7 : w7.heap[gx]? = some (.cells #[.int .i64 xt, .int .i64 xd, .int .i64 xl, .int .i64 xs] 87 (0, 0)) := by
                rw [← HB0.out.2]; exact hS7.at 1 rfl
              have y2 : w7.cell? ⟨gx, 2, none⟩ = some (.int .i64 xl) := by rw [cell_of_row _ _ _ _ _ _ hx7]; rfl
              have y3 : w7.cell? ⟨gx, 3, none⟩ = some (.int .i64 xs) := by rw [cell_of_row _ _ _ _ _ _ hx7]; rfl
              clear hx7 hS7 hS0 HK0 HK1 k0 k1 k2 k3 HDC HB0 HMX this
              by_cases hxl : xl = (lv : Int)
              · by_cases hb0 : best < 0
                · have HST : Hid (bst dg lv L (l.take (k + 1)) = xs) := by
                    rw [HNX.out]
                    show _ = _
                    unfold stp
                    rw [if_pos ⟨hxl, Or.inr HLL.out, Or.inl hb0⟩]
                  clear HNX
                  go_wp2_with fail
                  go_roundw
                  case rel => exact ⟨k + 1, xs, by go_num, by omega, rfl, Lib.hid HST.out.symm, by omega, by omega, HM7, HB7⟩
                  case measure => simp [intOf]; omega
                · by_cases hb1 : xs < best
                  · have HST : Hid (bst dg lv L (l.take (k + 1)) = xs) := by
                      rw [HNX.out]
                      show _ = _
                      unfold stp
                      rw [if_pos ⟨hxl, Or.inr HLL.out, Or.inr hb1⟩]
                    clear HNX
                    go_wp2_with fail
                    go_roundw
                    case rel => exact ⟨k + 1, xs, by go_num, by omega, rfl, Lib.hid HST.out.symm, by omega, by omega, HM7, HB7⟩
                    case measure => simp [intOf]; omega
                  · have HST : Hid (bst dg lv L (l.take (k + 1)) = best) := by
                      rw [HNX.out]
                      show _ = _
                      unfold stp
                      rw [if_neg (fun c => by rcases c.2.2 with c | c; exact hb0 c; exact hb1 c)]
                    clear HNX
                    go_wp2_with fail
                    go_roundw
                    case rel => exact ⟨k + 1, best, by go_num, by omega, rfl, Lib.hid HST.out.symm, by omega, by omega, HM7, HB7⟩
                    case measure => simp [intOf]; omega
              · have HST : Hid (bst dg lv L (l.take (k + 1)) = best) := by
                  rw [HNX.out]
                  show _ = _
                  unfold stp
                  rw [if_neg (fun c => hxl c.1)]
                clear HNX
                go_wp2_with fail
                go_roundw
                case rel => exact ⟨k + 1, best, by go_num, by omega, rfl, Lib.hid HST.out.symm, by omega, by omega, HM7, HB7⟩
                case measure => simp [intOf]; omega
            · have hlI2 : ((lv : Int) == (L : Int)) = false := by rw [beq_eq_false_iff_ne]; omega
              have HLL := Lib.hid hlL
              clear hlL
              refine wp_region_sub (Kept wx [(w.heap.size, O0), (gx, OX)]) (by kernel_rfl) (by kernel_rfl) hS0 ?_
              repeat (go_big_quiet_step (first | (go_at_call 72; exact Calls.sub (HDC.out _) (fun _ h k => h.later k))))
              refine wpQuiet_nil ?_
              rintro w7 ⟨m7, hm7⟩
              have hS7 : Kept wx [(w.heap.size, O0), (gx, OX)] w7 := hm7 ▸ m7.ok
              clear hm7 m7
              have HM7 : Hid (Made w w7) := Made.trans HMX.out hS7.md
              have HB7 : Hid (w7.heap[w.heap.size]? = some (.cells #[.int .i64 (L : Int), .int .i64 (B : Int), .int .i64 now, .slice (some ⟨g, 0, none⟩) n cap] 77 (0, 0))) := by
                rw [← HB0.out.1]; exact Lib.hid (hS7.at 0 rfl)
              have hx7 : w7.heap[gx]? = some (.cells #[.int .i64 xt, .int .i64 xd, .int .i64 xl, .int .i64 xs] 87 (0, 0)) := by
                rw [← HB0.out.2]; exact hS7.at 1 rfl
              have y2 : w7.cell? ⟨gx, 2, none⟩ = some (.int .i64 xl) := by rw [cell_of_row _ _ _ _ _ _ hx7]; rfl
              have y3 : w7.cell? ⟨gx, 3, none⟩ = some (.int .i64 xs) := by rw [cell_of_row _ _ _ _ _ _ hx7]; rfl
              clear hx7 hS7 hS0 HK0 HK1 k0 k1 k2 k3 HDC HB0 HMX this
              by_cases hxl : xl = (lv : Int)
              · have HST : Hid (bst dg lv L (l.take (k + 1)) = best) := by
                  rw [HNX.out]
                  show _ = _
                  unfold stp
                  rw [if_neg (fun c => by rcases c.2.1 with c | c; exact hds c; exact HLL.out c)]
                clear HNX
                go_wp2_with fail
                go_roundw
                case rel => exact ⟨k + 1, best, by go_num, by omega, rfl, Lib.hid HST.out.symm, by omega, by omega, HM7, HB7⟩
                case measure => simp [intOf]; omega
              · have HST : Hid (bst dg lv L (l.take (k + 1)) = best) := by
                  rw [HNX.out]
                  show _ = _
                  unfold stp
                  rw [if_neg (fun c => by rcases c.2.1 with c | c; exact hds c; exact HLL.out c)]
                clear HNX
                go_wp2_with fail
                go_roundw
                case rel => exact ⟨k + 1, best, by go_num, by omega, rfl, Lib.hid HST.out.symm, by omega, by omega, HM7, HB7⟩
                case measure => simp [intOf]; omega
        · have HBL : Hid (best = bst dg lv L l) := by
            have h := HBE.out
            rw [List.take_of_length_le (by have := HN.out; omega)] at h
            exact h
          obtain rfl : k = n := by omega
          clear HBE
          by_cases hb0 : 0 ≤ best
          · by_cases hlL : lv = L
            · subst hlL
              have HF : Hid ((flo now (lv : Int) (B : Int) : Int) + (one : Int) = pkD lv B now l lv 0) := by
                rw [HP.out (by omega), Nat.sub_self]
                show _ = _
                unfold pkD
                rw [HD.out, ← HBL.out, if_pos hb0, HO.out]
              have hfl := flo_lt now (lv : Int) (B : Int)
              obtain ⟨F, hFe, hF0, hF1⟩ : ∃ F : Int, (flo now (lv : Int) (B : Int) : Int) = F ∧ 0 ≤ F ∧ F < 4294967296 := ⟨_, rfl, by omega, by omega⟩
              have HFC : Hid (∀ w : World, Calls Try.prog 73 #[.int .i64 now, .int .i64 (lv : Int), .int .i64 (B : Int)] w fun e w' => e = .returned (.int .i64 F) ∧ Made w w') := fun w => by
                have := HFL.out (lv : Int) w
                rw [hFe] at this
                exact this
              rw [hFe] at HF
              clear hFe hfl HP HQ HD HBL HO
              go_wp2_with fail
              refine (HFC.out _).mono ?_
              rintro e w7 ⟨rfl, hM7⟩
              have HM7 := Lib.hid (Made.trans HM.out hM7)
              clear hM7 x0 x1 x2 x3
              go_wp2_with fail
              go_ret
              exact ⟨by rw [← HF.out]; rfl, HM7.out⟩
            · have hlI : ¬ (lv : Int) = (L : Int) := by omega
              have HF : Hid ((flo now ((lv : Int) + 1) (B : Int) : Int) + best * (one : Int) = pkD L B now l L 0) := by
                rw [HP.out (by omega), show L - lv = (L - lv - 1) + 1 by omega]
                show _ = _
                rw [pkD, HD.out, ← HBL.out, if_pos hb0, HO.out]
              have hfl := flo_lt now ((lv : Int) + 1) (B : Int)
              obtain ⟨F, hFe, hF0, hF1⟩ : ∃ F : Int, (flo now ((lv : Int) + 1) (B : Int) : Int) = F ∧ 0 ≤ F ∧ F < 4294967296 := ⟨_, rfl, by omega, by omega⟩
              have HFC : Hid (∀ w : World, Calls Try.prog 73 #[.int .i64 now, .int .i64 ((lv : Int) + 1), .int .i64 (B : Int)] w fun e w' => e = .returned (.int .i64 F) ∧ Made w w') := fun w => by
                have := HFL.out ((lv : Int) + 1) w
                rw [hFe] at this
                exact this
              rw [hFe] at HF
              obtain ⟨P, hP, hP0, hP1⟩ : ∃ P : Int, best * (one : Int) = P ∧ 0 ≤ P ∧ P ≤ 4294967296 := by
                refine ⟨_, rfl, Int.mul_nonneg hb0 (by omega), ?_⟩
                have := Int.mul_le_mul (show best ≤ 64 by omega) (show (one : Int) ≤ 67108864 by omega) (by omega) (by omega)
                omega
              have hw1 : wrap64 (best * (one : Int)) = P := by rw [hP]; exact IntWalk.wrap64_in _ (by omega)
              rw [hP] at HF
              clear hFe hfl HP HQ HD HBL HO hP hlL
              go_wp2_with fail
              refine (HFC.out _).mono ?_
              rintro e w7 ⟨rfl, hM7⟩
              have HM7 := Lib.hid (Made.trans HM.out hM7)
              clear hM7 x0 x1 x2 x3
              go_wp2_with fail
              go_ret
              exact ⟨by rw [← HF.out]; rfl, HM7.out⟩
          · have HP2 : Hid (lv + 1 ≤ L → pkD L B now l L 0 = pkD L B now l (L - (lv + 1)) (lv + 1)) := by
              intro hle
              rw [HP.out (by omega), show L - lv = (L - (lv + 1)) + 1 by omega]
              rw [pkD, HD.out, ← HBL.out, if_neg hb0]
            have HQ2 : Hid (lv + 1 = L + 1 → pkD L B now l L 0 = -1) := by
              intro he
              obtain rfl : lv = L := by omega
              rw [HP.out (by omega), Nat.sub_self]
              rw [pkD, HD.out, ← HBL.out, if_neg hb0]
            obtain ⟨one2, hone2⟩ : ∃ one2, one * S = one2 := ⟨_, rfl⟩
            have HO2 : Hid (one2 = 2 ^ (B * (lv + 1))) := by
              rw [← hone2, HO.out, HS.out, ← Nat.pow_add]; exact Lib.hid (by rw [Nat.mul_add, Nat.mul_one])
            have hone3 : one2 ≤ 67108864 := by
              rw [HO2.out]
              have h1 : B * (lv + 1) ≤ 26 := by
                have h2 : B * lv ≤ B * L := Nat.mul_le_mul_left _ (by omega)
                rw [Nat.mul_add, Nat.mul_one]; omega
              exact Nat.le_trans (Nat.pow_le_pow_right (by decide) h1) (by decide)
            have hw1 : wrap64 ((one : Int) * (S : Int)) = (one2 : Int) := by
              rw [← Int.natCast_mul, hone2]; exact IntWalk.wrap64_in _ (by omega)
            clear HP HQ HBL HO hone2
            go_wp2_with (first | (go_at_call 74; refine (HSZ.out _).mono ?_; rintro e w' ⟨rfl, rfl⟩))
            go_roundw
            case rel => exact ⟨lv + 1, one2, by go_num, by omega, by first | rfl | (rw [hw1]), HO2, hone3, HM, HB, HP2, HQ2⟩
            case measure => simp [intOf]; omega
    · have HQ2 : Hid (pkD L B now l L 0 = -1) := HQ.out (by omega)
      obtain rfl : lv = L + 1 := by omega
      have i2 : ¬ ((L + 1 : Nat) : Int) ≤ (L : Int) := by omega
      have i3 : ¬ (L : Int) + 1 ≤ (L : Int) := by omega
      go_wp2_with fail
      go_ret
      exact ⟨by rw [HQ2.out]; rfl, HM.out⟩
end Go.Proofs.Ytndpkonihcebeaa.Whl

/- Package knelllaw10, walked: tickets. -/
namespace Go.Proofs.Ytndpkonihcebeaa.Whl
open Go.RowKit Go.Proofs.Ytndpkonihcebeaa Go.Proofs.Ytndpkonihcebeaa.Cell Go.Proofs.Ytndpkonihcebeaa.Seq Go.Proofs.Ytndpkonihcebeaa.Num Go.Proofs.Ytndpkonihcebeaa.SetN Go.Proofs.Ytndpkonihcebeaa.Dig Go.Proofs.Ytndpkonihcebeaa.Bits
set_option linter.unusedVariables false
set_option linter.unusedSimpArgs false
variable {a b bl bs L S B N G : Nat}

set_option maxRecDepth 100000 in
set_option maxHeartbeats 4000000 in
theorem tickets_c {lo : Nat} {now : Int} {vl : Value} {l : List Tk} {w0 w : World} {c : Int} {xs : List Int} {chs : Nat → Nat → List Nat} (hR : Rest a b bl bs L S B N G w0 w c xs chs) (h : Tks lo w vl l) (hL : L ≤ 8) (hB1 : 1 ≤ B) (hB6 : B ≤ 6) (hl : l.length ≤ 1000) (hLT : (listOf L S chs).length ≤ 1000) (hTN : (listOf L S chs).length ≤ N)
    (heq : (listOf L S chs).map (fun x => ((x.1 : Int), (x.2.1 : Int), (x.2.2 : Int))) = (lsL (2 ^ B) l (L + 1)).map fun x => (x.1, x.2.2.1, x.2.2.2)) :
    Calls Try.prog 37 #[.agg (WV a bl bs L B), RW L B now vl] w fun e w' => e = .returned (.bool true) ∧ Made w w' := by
  obtain ⟨T, hT⟩ : ∃ T, listOf L S chs = T := ⟨_, rfl⟩
  obtain ⟨U, hU⟩ : ∃ U, lsL (2 ^ B) l (L + 1) = U := ⟨_, rfl⟩
  have hlen : U.length = T.length := by
    have := congrArg List.length heq
    rw [List.length_map, List.length_map, hT, hU] at this
    exact this.symm
  have HLI : Hid (∀ w', Made w w' → Calls Try.prog 38 #[.agg (WV a bl bs L B)] w' fun e w'' => ∃ A cap, e = .returned (.slice A T.length cap) ∧ T.length ≤ cap ∧ cap ≤ maxLen ∧ Told w.heap.size w'' A (tc T) ∧ Made w' w'') := by
    intro w' hm
    rw [← hT]
    refine ((hR.made hm).list hTN).mono ?_
    rintro e w'' ⟨A, cap, rfl, h1, h2, h3, h4, _⟩
    refine ⟨A, cap, rfl, h1, h2, fun hn => ?_, h4⟩
    obtain ⟨g, cur, ty, rfl, h5, h6⟩ := h3 hn
    exact ⟨g, cur, ty, rfl, Nat.le_trans hm.size h5, h6⟩
  have HLS : Hid (∀ w', Made w w' → Calls Try.prog 69 #[RW L B now vl, vl] w' fun e w'' => ∃ A cap, e = .returned (.slice A T.length cap) ∧ T.length ≤ cap ∧ cap ≤ maxLen ∧ Told w.heap.size w'' A (tk U) ∧ Made w' w'') := by
    intro w' hm
    refine (Lists_c L B lo now vl vl l w' hL hB1 hB6 hl (h.made hm)).mono ?_
    rintro e w'' ⟨v', rfl, h1, h2⟩
    rw [hU] at h1
    obtain ⟨A, cap, rfl, h3, h4, h5⟩ := h1
    rw [hlen] at h3 ⊢
    refine ⟨A, cap, rfl, h3, h4, fun hn => ?_, h2⟩
    obtain ⟨g, cur, ty, rfl, h5, h6⟩ := h5 hn
    exact ⟨g, cur, ty, rfl, Nat.le_trans hm.size h5, h6⟩
  have HEQ : Hid (T.map (fun x => ((x.1 : Int), (x.2.1 : Int), (x.2.2 : Int))) = U.map fun x => (x.1, x.2.2.1, x.2.2.2)) := by rw [← hT, ← hU]; exact heq
  rw [hT] at hLT
  clear hR h heq hlen hT hU hl hTN
  unfold RW at HLS ⊢
  obtain ⟨n, hn⟩ : ∃ n, T.length = n := ⟨_, rfl⟩
  rw [hn] at HLI HLS hLT
  have HN := Lib.hid hn
  clear hn
  go_enter Try.func37, Try.ntmps37
  go_upto_region 1 with fail
  have hm0 : Made w ((w.alloc (.cells (WV a bl bs L B) 71)).alloc (.cells #[.int .i64 (L : Int), .int .i64 (B : Int), .int .i64 now, vl] 77)) := ((Made.refl w).alloc (Nat.le_refl _) _).alloc (by simp) _
  have hb0 : ((w.alloc (.cells (WV a bl bs L B) 71)).alloc (.cells #[.int .i64 (L : Int), .int .i64 (B : Int), .int .i64 now, vl] 77)).heap[w.heap.size]? = some (.cells (WV a bl bs L B) 71 (0, 0)) := heap_alloc2_old _ _ _
  have hb1 : ((w.alloc (.cells (WV a bl bs L B) 71)).alloc (.cells #[.int .i64 (L : Int), .int .i64 (B : Int), .int .i64 now, vl] 77)).heap[w.heap.size + 1]? = some (.cells #[.int .i64 (L : Int), .int .i64 (B : Int), .int .i64 now, vl] 77 (0, 0)) := heap_alloc2_new _ _ _
  generalize (w.alloc (.cells (WV a bl bs L B) 71)).alloc (.cells #[.int .i64 (L : Int), .int .i64 (B : Int), .int .i64 now, vl] 77) = wb at hm0 hb0 hb1 ⊢
  have HK : Hid (∀ w', Made wb w' → (w'.cell? ⟨w.heap.size, 0, none⟩ = some (.pointer (some ⟨a, 0, none⟩)) ∧ w'.cell? ⟨w.heap.size, 1, none⟩ = some (.int .i64 (L : Int)) ∧ w'.cell? ⟨w.heap.size, 2, none⟩ = some (.int .i64 (B : Int)) ∧ w'.cell? ⟨w.heap.size, 3, none⟩ = some (.int .i64 0) ∧ w'.cell? ⟨w.heap.size, 4, none⟩ = some (.func (.func 59) #[] #[]) ∧ w'.cell? ⟨w.heap.size, 5, none⟩ = some (.func (.func 60) #[] #[.pointer (some ⟨bl, 0, none⟩), .pointer (some ⟨bs, 0, none⟩)]) ∧ w'.cell? ⟨w.heap.size, 6, none⟩ = some (.func (.func 61) #[] #[.pointer (some ⟨bl, 0, none⟩), .pointer (some ⟨bs, 0, none⟩)])) ∧ w'.cell? ⟨w.heap.size + 1, 0, none⟩ = some (.int .i64 (L : Int)) ∧ w'.cell? ⟨w.heap.size + 1, 1, none⟩ = some (.int .i64 (B : Int)) ∧ w'.cell? ⟨w.heap.size + 1, 2, none⟩ = some (.int .i64 now) ∧ w'.cell? ⟨w.heap.size + 1, 3, none⟩ = some vl) := by
    intro w' hm
    have q0 := (hm.block _ (Array.getElem?_eq_some_iff.1 hb0).1).trans hb0
    have q1 := (hm.block _ (Array.getElem?_eq_some_iff.1 hb1).1).trans hb1
    refine ⟨⟨?_, ?_, ?_, ?_, ?_, ?_, ?_⟩, ?_, ?_, ?_, ?_⟩ <;> (first | (rw [cell_of_row _ _ _ _ _ _ q0]; rfl) | (rw [cell_of_row _ _ _ _ _ _ q1]; rfl))
  have HM0 := Lib.hid hm0
  have HMD : Hid (Made w wb.drew) := Made.trans hm0 (Made.drewN wb 1)
  clear hm0 hb0 hb1
  go_region_held3 (fun w' => (w'.cell? ⟨w.heap.size, 0, none⟩ = some (.pointer (some ⟨a, 0, none⟩)) ∧ w'.cell? ⟨w.heap.size, 1, none⟩ = some (.int .i64 (L : Int)) ∧ w'.cell? ⟨w.heap.size, 2, none⟩ = some (.int .i64 (B : Int)) ∧ w'.cell? ⟨w.heap.size, 3, none⟩ = some (.int .i64 0) ∧ w'.cell? ⟨w.heap.size, 4, none⟩ = some (.func (.func 59) #[] #[]) ∧ w'.cell? ⟨w.heap.size, 5, none⟩ = some (.func (.func 60) #[] #[.pointer (some ⟨bl, 0, none⟩), .pointer (some ⟨bs, 0, none⟩)]) ∧ w'.cell? ⟨w.heap.size, 6, none⟩ = some (.func (.func 61) #[] #[.pointer (some ⟨bl, 0, none⟩), .pointer (some ⟨bs, 0, none⟩)])) ∧ w'.cell? ⟨w.heap.size + 1, 0, none⟩ = some (.int .i64 (L : Int)) ∧ w'.cell? ⟨w.heap.size + 1, 1, none⟩ = some (.int .i64 (B : Int)) ∧ w'.cell? ⟨w.heap.size + 1, 2, none⟩ = some (.int .i64 now) ∧ w'.cell? ⟨w.heap.size + 1, 3, none⟩ = some vl) (first | exact HK.out _ (Made.refl _) | exact HK.out _ (Made.drewN _ 1) | exact HK.out _ (made_of (by assumption))) (first | (go_at_call 38; refine (HLI.out _ HMD.out).mono ?_; rintro e w4 ⟨A4, cap4, rfl, hl4, hm4, ht4, hM4⟩; have HM4 := Lib.hid (Made.trans (Made.drewN wb 1) hM4); have HT4 := Lib.hid ht4; have HW4 := Lib.hid (Made.trans HMD.out hM4); clear hM4 ht4) | (go_at_call 69; refine (HLS.out _ HW4.out).mono ?_; rintro e w5 ⟨A5, cap5, rfl, hl5, hm5, ht5, hM5⟩; have HM5 := Lib.hid (Made.trans HM4.out hM5); have HT5 := Lib.hid ht5; have HW5 := Lib.hid (Made.trans HW4.out hM5); have HT6 := Lib.hid (HT4.out.made hM5); clear hM5 ht5))
  clear HLI HLS HK HM0 HMD HM4 HW4 HT4 HM5
  go_wp2_with fail
  go_loopw [22] (fun i wz => ∃ k : Nat, i = .int .i64 (k : Int) ∧ k ≤ n ∧ Hid (Made w5 wz)) (fun i _ => (n - intOf i).toNat)
  case atStart => exact ⟨0, rfl, by omega, Lib.hid (Made.refl _)⟩
  case round =>
    obtain ⟨k, rfl, hk, HMk⟩ := hrel
    by_cases hlt : k < n
    · have i3 : (k : Int) < (n : Int) := by omega
      obtain ⟨⟨t, lv, sl⟩, hTk⟩ : ∃ x, T[k]? = some x := ⟨_, List.getElem?_eq_getElem (by have := HN.out; omega)⟩
      have hUk : (U.map fun x => (x.1, x.2.2.1, x.2.2.2))[k]? = some ((t : Int), (lv : Int), (sl : Int)) := by
        rw [← HEQ.out, List.getElem?_map, hTk]; rfl
      rw [List.getElem?_map] at hUk
      obtain ⟨⟨xt, xd, xl, xs'⟩, hx, hxe⟩ := Option.map_eq_some_iff.1 hUk
      simp only [Prod.mk.injEq] at hxe
      obtain ⟨rfl, rfl, rfl⟩ := hxe
      obtain ⟨g, rfl, hg, y0, y1, y2, y3⟩ := told_cell (HT5.out.made HMk.out) hx
      simp only at y0 y1 y2 y3
      have hne : tc T ≠ [] := fun c => by
        have h1 := tc_len T
        have h2 : (tc T).length = 0 := by rw [c]; rfl
        have := HN.out
        omega
      obtain ⟨g4, cur4, ty4, rfl, hlo4, hb4, hc4⟩ := (HT6.out.made HMk.out) hne
      have z0 : wr.cell? ⟨g4, k * 3, none⟩ = some (.int .i64 (t : Int)) := by rw [cell_of_row _ _ _ _ _ _ hb4, hc4 _ (by rw [tc_len]; have := HN.out; omega)]; exact (tc_at hTk).1
      have z1 : wr.cell? ⟨g4, k * 3 + 1, none⟩ = some (.int .i64 (lv : Int)) := by rw [cell_of_row _ _ _ _ _ _ hb4, hc4 _ (by rw [tc_len]; have := HN.out; omega)]; exact (tc_at hTk).2.1
      have z2 : wr.cell? ⟨g4, k * 3 + 2, none⟩ = some (.int .i64 (sl : Int)) := by rw [cell_of_row _ _ _ _ _ _ hb4, hc4 _ (by rw [tc_len]; have := HN.out; omega)]; exact (tc_at hTk).2.2
      have hk0 : (0 : Int) ≤ (k : Int) := by omega
      clear hTk hUk hx hne hlo4 hb4 hc4 hg
      go_upto_region 7 with fail
      have hmx : Made wr (wr.alloc (.cells #[.int .i64 (t : Int), .int .i64 xd, .int .i64 (lv : Int), .int .i64 (sl : Int)] 87)) := (Made.refl _).alloc (Nat.le_refl _) _
      have hbx : (wr.alloc (.cells #[.int .i64 (t : Int), .int .i64 xd, .int .i64 (lv : Int), .int .i64 (sl : Int)] 87)).heap[wr.heap.size]? = some (.cells #[.int .i64 (t : Int), .int .i64 xd, .int .i64 (lv : Int), .int .i64 (sl : Int)] 87 (0, 0)) := heap_alloc_new _ _
      generalize wr.alloc _ = wx at hmx hbx ⊢
      have HMX := Lib.hid (Made.trans HMk.out hmx)
      have cc : ∀ {p : Addr} {u : Value}, wr.cell? p = some u → wx.cell? p = some u := fun {p u} h => (World.cell?_of_block (hmx.block _ (Go.block_lt_of_cell h))).trans h
      have v0 := cc z0
      have v1 := cc z1
      have v2 := cc z2
      generalize wr.heap.size = gx at hbx ⊢
      have u0 : wx.cell? ⟨gx, 0, none⟩ = some (.int .i64 (t : Int)) := by rw [cell_of_row _ _ _ _ _ _ hbx]; rfl
      have u2 : wx.cell? ⟨gx, 2, none⟩ = some (.int .i64 (lv : Int)) := by rw [cell_of_row _ _ _ _ _ _ hbx]; rfl
      have u3 : wx.cell? ⟨gx, 3, none⟩ = some (.int .i64 (sl : Int)) := by rw [cell_of_row _ _ _ _ _ _ hbx]; rfl
      clear hmx hbx z0 z1 z2 y0 y1 y2 y3 HMk cc
      go_quiet (fail)
      go_wp2_with fail
      go_roundw
      case rel => exact ⟨k + 1, by go_num, by omega, Made.trans HMX.out (Made.drewN _ _)⟩
      case measure => simp [intOf]; omega
    · obtain rfl : k = n := by omega
      go_wp2_with fail
      go_ret
      exact ⟨rfl, Made.trans HW5.out HMk.out⟩
end Go.Proofs.Ytndpkonihcebeaa.Whl

/- Package wheel, in plain words: the document's list of tickets, and the program's lists. -/
namespace Go.Proofs.Ytndpkonihcebeaa.Whl
open Go.RowKit Go.Proofs.Ytndpkonihcebeaa Go.Proofs.Ytndpkonihcebeaa.Cell Go.Proofs.Ytndpkonihcebeaa.Seq Go.Proofs.Ytndpkonihcebeaa.Num Go.Proofs.Ytndpkonihcebeaa.SetN Go.Proofs.Ytndpkonihcebeaa.Dig Go.Proofs.Ytndpkonihcebeaa.Bits
set_option linter.unusedVariables false
set_option linter.unusedSimpArgs false
variable {a b bl bs L S B N G : Nat}

/-- A ticket of the document that stands where it belongs. -/
structure Tok (L B S : Nat) (now : Int) (x : Tk) : Prop where
  t0 : 0 ≤ x.1
  t1 : x.1 < 20
  d0 : 0 ≤ x.2.1
  d1 : x.2.1 ≤ 4000000000
  pl : ∃ lv sl : Nat, Val L S lv sl ∧ Placed now x.2.1 L B S lv sl ∧ x.2.2.1 = (lv : Int) ∧ x.2.2.2 = (sl : Int)
/-- The document's tickets l, those that were passed and aren't put anew yet (g), and the program's lists. -/
structure Ply (L S B : Nat) (now : Int) (l g : List Tk) (chs : Nat → Nat → List Nat) : Prop where
  eq : ∀ lv sl, Val L S lv sl → chs lv sl = (l.filter (atT lv sl)).map fun x => x.1.toNat
  ok : ∀ x ∈ l, Tok L B S now x
  go : ∀ x ∈ g, 0 ≤ x.1 ∧ x.1 < 20 ∧ 0 ≤ x.2.1 ∧ x.2.1 ≤ 4000000000
  nd : ((l ++ g).map fun x => x.1).Nodup
theorem Ply.empty (now : Int) : Ply L S B now [] [] (fun _ _ => []) := ⟨fun _ _ _ => rfl, fun _ h => by simp at h, fun _ h => by simp at h, List.nodup_nil⟩
theorem atT_iff (lv sl : Nat) (x : Tk) : atT lv sl x = true ↔ x.2.2.1 = (lv : Int) ∧ x.2.2.2 = (sl : Int) := by simp [atT]
theorem Ply.mem {now : Int} {l g : List Tk} {chs : Nat → Nat → List Nat} (h : Ply L S B now l g chs) {lv sl t : Nat} (hv : Val L S lv sl) : t ∈ chs lv sl ↔ ∃ x ∈ l, x.1 = (t : Int) ∧ x.2.2.1 = (lv : Int) ∧ x.2.2.2 = (sl : Int) := by
  rw [h.eq lv sl hv, List.mem_map]
  constructor
  · rintro ⟨x, hx, rfl⟩
    rw [List.mem_filter, atT_iff] at hx
    exact ⟨x, hx.1, by have := (h.ok x hx.1).t0; omega, hx.2⟩
  · rintro ⟨x, hx, e, hp⟩
    exact ⟨x, by rw [List.mem_filter, atT_iff]; exact ⟨hx, hp⟩, by omega⟩
theorem Ply.fresh {now : Int} {l g : List Tk} {chs : Nat → Nat → List Nat} (h : Ply L S B now l g chs) {t : Nat} (ht : ∀ x ∈ l, x.1 ≠ (t : Int)) : ∀ lv sl, Val L S lv sl → t ∉ chs lv sl := fun lv sl hv m => by
  obtain ⟨x, hx, e, _⟩ := (h.mem hv).1 m
  exact ht x hx e
/-- A ticket is put. -/
theorem Ply.put {now d : Int} {t : Nat} {l g : List Tk} {chs : Nat → Nat → List Nat} (h : Ply L S B now l g chs) (ht : t < 20) (h0 : 0 ≤ d) (h1 : d ≤ 4000000000) (hn : ∀ x ∈ l ++ g, x.1 ≠ (t : Int)) {lv sl : Nat} (hp : Placed now d L B S lv sl) (hv : Val L S lv sl) : Ply L S B now (newTk L B now (t : Int) d :: l) g (insCh t lv sl chs) := by
  have e : newTk L B now (t : Int) d = ((t : Int), d, (lv : Int), (sl : Int)) := by unfold newTk; rw [hp.at_]
  rw [e]
  refine ⟨fun lv' sl' hv' => ?_, fun x hx => ?_, h.go, ?_⟩
  · unfold insCh
    rw [List.filter_cons]
    by_cases hc : lv' = lv ∧ sl' = sl
    · obtain ⟨rfl, rfl⟩ := hc
      rw [if_pos ⟨rfl, rfl⟩, if_pos (by rw [atT_iff]; exact ⟨rfl, rfl⟩), List.map_cons, ← h.eq _ _ hv']
      simp
    · rw [if_neg hc, if_neg (by rw [atT_iff]; rintro ⟨e1, e2⟩; simp only at e1 e2; exact hc ⟨by omega, by omega⟩)]
      exact h.eq _ _ hv'
  · rcases List.mem_cons.1 hx with rfl | hx
    · exact ⟨by simp, by simp only; omega, h0, h1, lv, sl, hv, hp, rfl, rfl⟩
    · exact h.ok x hx
  · rw [List.cons_append, List.map_cons, List.nodup_cons]
    refine ⟨fun c => ?_, h.nd⟩
    obtain ⟨x, hx, e2⟩ := List.mem_map.1 c
    exact hn x hx e2
/-- A level's slots, looked through. -/
theorem lsS_over {now : Int} {l : List Tk} (h : ∀ x ∈ l, Tok L B S now x) (hS : 1 ≤ S) : lsS l L S = l.filter (atT L 0) := by
  have key : ∀ n, lsS l L (n + 1) = l.filter (atT L 0) := by
    intro n
    induction n with
    | zero => simp [lsS]
    | succ n ih =>
      rw [lsS_succ, ih]
      have : l.filter (atT L (n + 1)) = [] := by
        rw [List.filter_eq_nil_iff]
        intro x hx hc
        rw [atT_iff] at hc
        obtain ⟨lv, sl, hv, _, e1, e2⟩ := (h x hx).pl
        have := hv.2.2 (by omega)
        omega
      rw [this, List.append_nil]
  obtain ⟨n, rfl⟩ : ∃ n, S = n + 1 := ⟨S - 1, by omega⟩
  exact key n
/-- All tickets, as the program and the document tell them. -/
theorem Ply.list {now : Int} {l g : List Tk} {chs : Nat → Nat → List Nat} (h : Ply L S B now l g chs) (hS : 1 ≤ S) : (listOf L S chs).map (fun x => ((x.1 : Int), (x.2.1 : Int), (x.2.2 : Int))) = (lsL S l (L + 1)).map fun x => (x.1, x.2.2.1, x.2.2.2) := by
  have one : ∀ lv sl, Val L S lv sl → ((chs lv sl).map fun t => (t, lv, sl)).map (fun x : Nat × Nat × Nat => ((x.1 : Int), (x.2.1 : Int), (x.2.2 : Int))) = (l.filter (atT lv sl)).map fun x => (x.1, x.2.2.1, x.2.2.2) := fun lv sl hv => by
    rw [h.eq lv sl hv, List.map_map, List.map_map]
    apply List.map_congr_left
    intro x hx
    rw [List.mem_filter, atT_iff] at hx
    have := (h.ok x hx.1).t0
    simp only [Function.comp_apply, Prod.mk.injEq]
    exact ⟨by omega, hx.2.1.symm, hx.2.2.symm⟩
  rw [lsL_succ, lsS_over h.ok hS]
  unfold listOf upTo slotsUp lsL lsS
  rw [List.map_append, List.map_append, one L 0 ⟨Nat.le_refl _, by omega, fun _ => rfl⟩]
  congr 1
  rw [List.map_flatMap, List.map_flatMap]
  apply flatMap_congr'
  intro lv hlv
  rw [List.mem_range] at hlv
  rw [List.map_flatMap, List.map_flatMap]
  apply flatMap_congr'
  intro sl hsl
  rw [List.mem_range] at hsl
  exact one lv sl ⟨by omega, hsl, fun c => by omega⟩
theorem crOf_some {now to' : Int} (j : Nat) : crOf now to' B j ≠ none ↔ tm now < tm to' ∧ (j : Int) ≤ topOf now to' B := by
  unfold crOf crossOf
  have e : max (j : Int) 0 = (j : Int) := by omega
  rw [e]
  split
  · rename_i h
    constructor
    · intro c; simp at c
    · intro c; omega
  · rename_i h
    split
    · simp only [if_true]
      constructor
      · intro _; omega
      · intro _ c; cases c
    · simp only [if_true]
      constructor
      · intro _; omega
      · intro _ c; cases c
/-- Passed is passed. -/
theorem ps_psR {now to' : Int} {x : Tk} (h : Tok L B S now x) {lv sl : Nat} (hx : x.2.2.1 = (lv : Int) ∧ x.2.2.2 = (sl : Int)) : ps (crOf now to' B) L 0 lv sl ↔ psR L B now to' x = true := by
  obtain ⟨lv', sl', hv, hp, e1, e2⟩ := h.pl
  obtain rfl : lv' = lv := by omega
  obtain rfl : sl' = sl := by omega
  unfold ps psR
  rw [e1, e2]
  by_cases hl : (lv' : Int) = (L : Int)
  · have hl2 : lv' = L := by omega
    rw [if_pos hl]
    simp only [Bool.and_eq_true, decide_eq_true_eq]
    constructor
    · rintro ⟨_, lo, hi, e, _⟩
      have := (crOf_some (B := B) (now := now) (to' := to') lv').1 (by rw [e]; simp)
      omega
    · rintro ⟨g1, g2⟩
      refine ⟨fun j _ hj => (crOf_some j).2 ⟨g1, by omega⟩, ?_⟩
      have hne := (crOf_some (B := B) (now := now) (to' := to') lv').2 ⟨g1, by omega⟩
      obtain ⟨p, hp'⟩ := Option.ne_none_iff_exists'.1 hne
      exact ⟨p.1, p.2, hp', Or.inl hl2⟩
  · rw [if_neg hl]
    simp only [Bool.and_eq_true, decide_eq_true_eq]
    constructor
    · rintro ⟨_, lo, hi, e, hc⟩
      have e3 := ((crs_of now to' B).yes lv' lo hi e).1
      rw [e3]
      rcases hc with hc | ⟨g1, g2⟩
      · omega
      · simp only
        exact ⟨⟨trivial, by omega⟩, by omega⟩
    · rintro ⟨⟨g1, g2⟩, g3⟩
      have hsome : crOf now to' B lv' = some ((crossOf now to' lv' B).1.toNat, (crossOf now to' lv' B).2.1.toNat) := by unfold crOf; rw [if_pos g1]
      have hk := (crOf_some (B := B) (now := now) (to' := to') lv').1 (by rw [hsome]; simp)
      exact ⟨fun j _ hj => (crOf_some j).2 ⟨hk.1, by omega⟩, _, _, hsome, Or.inr ⟨by omega, by omega⟩⟩
theorem inj_map {α β : Type} {f : α → β} : ∀ {l : List α}, (l.map f).Nodup → ∀ x ∈ l, ∀ y ∈ l, f x = f y → x = y
  | [], _, x, hx, _, _, _ => by simp at hx
  | z :: r, h, x, hx, y, hy, e => by
    rw [List.map_cons, List.nodup_cons] at h
    rcases List.mem_cons.1 hx with ex | hx
    · rcases List.mem_cons.1 hy with ey | hy
      · rw [ex, ey]
      · exact absurd (List.mem_map.2 ⟨y, hy, by rw [← e, ex]⟩) h.1
    · rcases List.mem_cons.1 hy with ey | hy
      · exact absurd (List.mem_map.2 ⟨x, hx, by rw [e, ey]⟩) h.1
      · exact inj_map h.2 x hx y hy e
theorem nodup_of_map {α β : Type} {f : α → β} : ∀ {l : List α}, (l.map f).Nodup → l.Nodup
  | [], _ => List.nodup_nil
  | z :: r, h => by
    rw [List.map_cons, List.nodup_cons] at h
    exact List.nodup_cons.2 ⟨fun c => h.1 (List.mem_map.2 ⟨z, c, rfl⟩), nodup_of_map h.2⟩
theorem mem_lsL {S : Nat} {l : List Tk} {n : Nat} {x : Tk} (h : x ∈ lsL S l n) : x ∈ l := by
  unfold lsL lsS at h
  simp only [List.mem_flatMap, List.mem_range, List.mem_filter] at h
  obtain ⟨_, _, _, _, h, _⟩ := h
  exact h
open Classical in
/-- What Pass tells, in both. -/
theorem Ply.gone {now to' : Int} {l g : List Tk} {chs : Nat → Nat → List Nat} (h : Ply L S B now l g chs) (hS : 1 ≤ S) : passG (crOf now to' B) S L 0 chs = (lsL S (l.filter fun x => psR L B now to' x) (L + 1)).map fun x => x.1.toNat := by
  have one : ∀ lv sl, Val L S lv sl → (if ps (crOf now to' B) L 0 lv sl then chs lv sl else []) = ((l.filter fun x => psR L B now to' x).filter (atT lv sl)).map fun x => x.1.toNat := fun lv sl hv => by
    rw [List.filter_filter]
    by_cases hp : ps (crOf now to' B) L 0 lv sl
    · rw [if_pos hp, h.eq lv sl hv]
      congr 1
      apply List.filter_congr
      intro x hx
      by_cases ha : atT lv sl x = true
      · have := (ps_psR (h.ok x hx) ((atT_iff lv sl x).1 ha)).1 hp
        simp [ha, this]
      · simp [ha]
    · rw [if_neg hp]
      symm
      rw [List.map_eq_nil_iff, List.filter_eq_nil_iff]
      intro x hx hc
      rw [Bool.and_eq_true] at hc
      exact hp ((ps_psR (h.ok x hx) ((atT_iff lv sl x).1 hc.1)).2 hc.2)
  have hok : ∀ x ∈ l.filter (fun x => psR L B now to' x), Tok L B S now x := fun x hx => h.ok x ((List.mem_filter.1 hx).1)
  rw [lsL_succ, lsS_over hok hS, passG_eq (L := L) L 0 (Nat.zero_add L), ← List.range_eq_range', List.map_append, one L 0 ⟨Nat.le_refl _, by omega, fun _ => rfl⟩]
  congr 1
  unfold lsL lsS
  rw [List.map_flatMap]
  apply flatMap_congr'
  intro lv hlv
  rw [List.mem_range] at hlv
  rw [List.map_flatMap]
  apply flatMap_congr'
  intro sl hsl
  rw [List.mem_range] at hsl
  exact one lv sl ⟨by omega, hsl, fun c => by omega⟩
/-- Time goes by. -/
theorem Ply.pass {now to' : Int} {l : List Tk} {xs : List Int} {chs : Nat → Nat → List Nat} (h : Ply L S B now l [] chs) (hw : Wst L S N xs chs) (hL : L ≤ 64) (h0 : 0 ≤ now) (h1 : now ≤ to') (h2 : to' < 4294967296) : Ply L S B to' (l.filter fun x => !psR L B now to' x) (lsL S (l.filter fun x => psR L B now to' x) (L + 1)) (passCh (crOf now to' B) L 0 chs) := by
  classical
  have e1 := tm_of h0 (by omega : now < 4294967296)
  have e2 := tm_of (by omega : 0 ≤ to') h2
  have hnd : (l.map fun x => x.1).Nodup := by
    have := h.nd
    rw [List.append_nil] at this
    exact this
  refine ⟨fun lv sl hv => ?_, fun x hx => ?_, fun x hx => ?_, ?_⟩
  · rw [passCh_eq L 0 chs (by omega) lv sl hv, List.filter_filter]
    by_cases hp : ps (crOf now to' B) L 0 lv sl
    · rw [if_pos ⟨Nat.zero_le _, hp⟩]
      symm
      rw [List.map_eq_nil_iff, List.filter_eq_nil_iff]
      intro x hx hc
      rw [Bool.and_eq_true] at hc
      have := (ps_psR (h.ok x hx) ((atT_iff lv sl x).1 hc.1)).1 hp
      rw [this] at hc
      simp at hc
    · rw [if_neg (fun c => hp c.2), h.eq lv sl hv]
      congr 1
      apply List.filter_congr
      intro x hx
      by_cases ha : atT lv sl x = true
      · have : psR L B now to' x = false := by
          cases hq : psR L B now to' x with
          | false => rfl
          | true => exact absurd ((ps_psR (h.ok x hx) ((atT_iff lv sl x).1 ha)).2 hq) hp
        simp [ha, this]
      · simp [ha]
  · rw [List.mem_filter] at hx
    have ht := h.ok x hx.1
    obtain ⟨lv, sl, hv, hp, q1, q2⟩ := ht.pl
    have hnp : ¬ ps (crOf now to' B) L 0 lv sl := fun c => by
      have := (ps_psR ht ⟨q1, q2⟩).1 c
      rw [this] at hx
      simp at hx
    exact ⟨ht.t0, ht.t1, ht.d0, ht.d1, lv, sl, hv, (hp.stay hL (by omega) hnp).2, q1, q2⟩
  · have ht := h.ok x ((List.mem_filter.1 (mem_lsL hx)).1)
    exact ⟨ht.t0, ht.t1, ht.d0, ht.d1⟩
  · rw [List.map_append, List.nodup_append]
    refine ⟨hnd.sublist (List.Sublist.map _ List.filter_sublist), ?_, ?_⟩
    · have h3 := passG_nodup (cr := crOf now to' B) hw
      rw [h.gone hw.s1] at h3
      have h4 : ((lsL S (l.filter fun x => psR L B now to' x) (L + 1)).map fun x => x.1).map Int.toNat = (lsL S (l.filter fun x => psR L B now to' x) (L + 1)).map fun x => x.1.toNat := by rw [List.map_map]; rfl
      rw [← h4] at h3
      exact nodup_of_map h3
    · intro u hu v hv e
      obtain ⟨x, hx, rfl⟩ := List.mem_map.1 hu
      obtain ⟨y, hy, rfl⟩ := List.mem_map.1 hv
      rw [List.mem_filter] at hx
      have hy2 := mem_lsL hy
      rw [List.mem_filter] at hy2
      have := inj_map hnd x hx.1 y hy2.1 e
      subst this
      rw [hy2.2] at hx
      simp at hx
/-- What was passed too early is put anew. -/
theorem Ply.again {now : Int} {x : Tk} {l g : List Tk} {chs : Nat → Nat → List Nat} (h : Ply L S B now l (x :: g) chs) {lv sl : Nat} (hp : Placed now x.2.1 L B S lv sl) (hv : Val L S lv sl) : Ply L S B now (newTk L B now x.1 x.2.1 :: l) g (insCh x.1.toNat lv sl chs) := by
  obtain ⟨t0, t1, d0, d1⟩ := h.go x List.mem_cons_self
  have e : ((x.1.toNat : Nat) : Int) = x.1 := by omega
  have hnd := h.nd
  rw [List.map_append, List.map_cons] at hnd
  have h2 := List.nodup_append.1 hnd
  have h3 := List.nodup_cons.1 h2.2.1
  have hg : Ply L S B now l g chs := ⟨h.eq, h.ok, fun y hy => h.go y (List.mem_cons_of_mem _ hy), by
    rw [List.map_append, List.nodup_append]
    exact ⟨h2.1, h3.2, fun u hu v hv' => h2.2.2 u hu v (List.mem_cons_of_mem _ hv')⟩⟩
  have := hg.put (t := x.1.toNat) (d := x.2.1) (by omega) d0 d1 (fun y hy c => by
    rw [e] at c
    rcases List.mem_append.1 hy with hy | hy
    · exact h2.2.2 y.1 (List.mem_map.2 ⟨y, hy, rfl⟩) x.1 List.mem_cons_self c
    · exact h3.1 (List.mem_map.2 ⟨y, hy, c⟩)) hp hv
  rw [e] at this
  exact this
/-- What was due is over. -/
theorem Ply.over {now : Int} {x : Tk} {l g : List Tk} {chs : Nat → Nat → List Nat} (h : Ply L S B now l (x :: g) chs) : Ply L S B now l g chs := by
  have hnd := h.nd
  rw [List.map_append, List.map_cons] at hnd
  have h2 := List.nodup_append.1 hnd
  have h3 := List.nodup_cons.1 h2.2.1
  exact ⟨h.eq, h.ok, fun y hy => h.go y (List.mem_cons_of_mem _ hy), by
    rw [List.map_append, List.nodup_append]
    exact ⟨h2.1, h3.2, fun u hu v hv' => h2.2.2 u hu v (List.mem_cons_of_mem _ hv')⟩⟩
theorem bst_key (dg : Int) (lv L : Nat) : ∀ (l : List Tk) (b : Int), -1 ≤ b → (∀ x ∈ l, 0 ≤ x.2.2.2) →
    (l.foldl (stp dg lv L) b = b ∧ ∀ x ∈ l, x.2.2.1 = (lv : Int) → (dg < x.2.2.2 ∨ lv = L) → 0 ≤ b ∧ b ≤ x.2.2.2) ∨
    (∃ x ∈ l, x.2.2.1 = (lv : Int) ∧ (dg < x.2.2.2 ∨ lv = L) ∧ l.foldl (stp dg lv L) b = x.2.2.2 ∧ (0 ≤ b → l.foldl (stp dg lv L) b ≤ b) ∧ ∀ y ∈ l, y.2.2.1 = (lv : Int) → (dg < y.2.2.2 ∨ lv = L) → l.foldl (stp dg lv L) b ≤ y.2.2.2)
  | [], b, _, _ => Or.inl ⟨rfl, fun x hx => by simp at hx⟩
  | x :: r, b, hb, h => by
    have hx := h x List.mem_cons_self
    have hr : ∀ y ∈ r, 0 ≤ y.2.2.2 := fun y hy => h y (List.mem_cons_of_mem _ hy)
    rw [List.foldl_cons]
    by_cases hc : x.2.2.1 = (lv : Int) ∧ (dg < x.2.2.2 ∨ lv = L) ∧ (b < 0 ∨ x.2.2.2 < b)
    · have e : stp dg lv L b x = x.2.2.2 := by unfold stp; rw [if_pos hc]
      rw [e]
      right
      rcases bst_key dg lv L r x.2.2.2 (by omega) hr with ⟨e2, h2⟩ | ⟨y, hy, y1, y2, y3, y4, y5⟩
      · refine ⟨x, List.mem_cons_self, hc.1, hc.2.1, e2, fun _ => by rw [e2]; rcases hc.2.2 with c | c <;> omega, fun z hz z1 z2 => ?_⟩
        rw [e2]
        rcases List.mem_cons.1 hz with rfl | hz
        · omega
        · exact (h2 z hz z1 z2).2
      · refine ⟨y, List.mem_cons_of_mem _ hy, y1, y2, y3, fun _ => ?_, fun z hz z1 z2 => ?_⟩
        · have := y4 hx
          rcases hc.2.2 with c | c <;> omega
        · rcases List.mem_cons.1 hz with rfl | hz
          · exact y4 hx
          · exact y5 z hz z1 z2
    · have e : stp dg lv L b x = b := by unfold stp; rw [if_neg hc]
      rw [e]
      have hxb : x.2.2.1 = (lv : Int) → (dg < x.2.2.2 ∨ lv = L) → 0 ≤ b ∧ b ≤ x.2.2.2 := fun z1 z2 => by
        have : ¬ (b < 0 ∨ x.2.2.2 < b) := fun c => hc ⟨z1, z2, c⟩
        omega
      rcases bst_key dg lv L r b hb hr with ⟨e2, h2⟩ | ⟨y, hy, y1, y2, y3, y4, y5⟩
      · refine Or.inl ⟨e2, fun z hz z1 z2 => ?_⟩
        rcases List.mem_cons.1 hz with rfl | hz
        · exact hxb z1 z2
        · exact h2 z hz z1 z2
      · refine Or.inr ⟨y, List.mem_cons_of_mem _ hy, y1, y2, y3, y4, fun z hz z1 z2 => ?_⟩
        rcases List.mem_cons.1 hz with rfl | hz
        · have := hxb z1 z2
          have := y4 this.1
          omega
        · exact y5 z hz z1 z2
/-- Both Peeks tell the same. -/
theorem Ply.peek {now : Int} {l g : List Tk} {xs : List Int} {chs : Nat → Nat → List Nat} (h : Ply L S B now l g chs) (hw : Wst L S N xs chs) : ∀ d lv, lv + d = L → (peekR now L B xs d lv).1 = pkD L B now l d lv
  | 0, lv, hd => by
    obtain rfl : lv = L := by omega
    have hsl : ∀ x ∈ l, 0 ≤ x.2.2.2 := fun x hx => by
      obtain ⟨_, sl, _, _, _, e2⟩ := (h.ok x hx).pl
      omega
    unfold peekR pkD
    have hval : Val lv S lv 0 := ⟨Nat.le_refl _, hw.s1, fun _ => rfl⟩
    rcases bst_key (dig now lv B) lv lv l (-1) (by omega) hsl with ⟨e2, h2⟩ | ⟨y, hy, y1, y2, y3, y4, y5⟩
    · have hb : bst (dig now lv B) lv lv l = -1 := e2
      rw [if_pos (hw.over.2 ?_), hb, if_neg (by omega)]
      rw [List.eq_nil_iff_forall_not_mem]
      intro t ht
      obtain ⟨x, hx, _, x1, _⟩ := (h.mem hval).1 ht
      have := (h2 x hx x1 (Or.inr rfl)).1
      omega
    · have hb : bst (dig now lv B) lv lv l = y.2.2.2 := y3
      obtain ⟨lv', sl, hv, _, e1, e2⟩ := (h.ok y hy).pl
      have hsl0 := hv.2.2 (by omega)
      have t0 := (h.ok y hy).t0
      rw [if_neg (fun c => ?_), hb, if_pos (hsl y hy), Nat.mul_comm]
      have hm : y.1.toNat ∈ chs lv 0 := (h.mem hval).2 ⟨y, hy, by omega, y1, by omega⟩
      rw [hw.over.1 c] at hm
      simp at hm
  | d + 1, lv, hd => by
    have hsl : ∀ x ∈ l, 0 ≤ x.2.2.2 := fun x hx => by
      obtain ⟨_, sl, _, _, _, e2⟩ := (h.ok x hx).pl
      omega
    unfold peekR pkD
    have ih := h.peek hw d (lv + 1) (by omega)
    have some_ : ∀ i, dig now lv B + 1 ≤ i → i < S → chs lv i ≠ [] → ∃ x ∈ l, x.2.2.1 = (lv : Int) ∧ x.2.2.2 = (i : Int) := fun i hi1 hi2 hne => by
      obtain ⟨t, ht⟩ := List.exists_mem_of_ne_nil _ hne
      obtain ⟨x, hx, _, x1, x2⟩ := (h.mem ⟨by omega, hi2, fun c => by omega⟩).1 ht
      exact ⟨x, hx, x1, x2⟩
    have back : ∀ y ∈ l, y.2.2.1 = (lv : Int) → ∃ i : Nat, y.2.2.2 = (i : Int) ∧ i < S ∧ chs lv i ≠ [] := fun y hy y1 => by
      obtain ⟨lv', sl, hv, _, e1, e2⟩ := (h.ok y hy).pl
      obtain rfl : lv' = lv := by omega
      have t0 := (h.ok y hy).t0
      have hm : y.1.toNat ∈ chs lv' sl := (h.mem hv).2 ⟨y, hy, by omega, e1, e2⟩
      exact ⟨sl, e2, hv.2.1, fun c => by rw [c] at hm; simp at hm⟩
    rcases hw.next (lv := lv) (a := dig now lv B + 1) (by omega) (dig_le _ _ _) with ⟨n, e, n1, n2, n3, n4⟩ | ⟨e, n4⟩
    · obtain ⟨x, hx, x1, x2⟩ := some_ n n1 n2 n3
      rw [if_neg (by omega), e]
      rcases bst_key (dig now lv B) lv L l (-1) (by omega) hsl with ⟨_, h2⟩ | ⟨y, hy, y1, y2, y3, y4, y5⟩
      · have := (h2 x hx x1 (Or.inl (by omega))).1
        omega
      · have hb : bst (dig now lv B) lv L l = y.2.2.2 := y3
        have h5 := y5 x hx x1 (Or.inl (by omega))
        obtain ⟨i, hi, hiS, hine⟩ := back y hy y1
        have hdi : (dig now lv B : Int) < y.2.2.2 := by rcases y2 with c | c; exact c; omega
        have hge : n ≤ i := by
          apply Nat.le_of_not_lt
          intro c
          exact hine (n4 i (by omega) c)
        have hbn : bst (dig now lv B) lv L l = (n : Int) := by
          have y3' : List.foldl (stp (↑(dig now (↑lv) ↑B)) lv L) (-1) l = y.2.2.2 := y3
          omega
        rw [hbn, if_pos (by omega), Nat.mul_comm]
    · rw [if_pos (by omega)]
      rcases bst_key (dig now lv B) lv L l (-1) (by omega) hsl with ⟨e2, h2⟩ | ⟨y, hy, y1, y2, y3, y4, y5⟩
      · have hb : bst (dig now lv B) lv L l = -1 := e2
        rw [hb, if_neg (by omega)]
        exact ih
      · obtain ⟨i, hi, hiS, hine⟩ := back y hy y1
        have hdi : (dig now lv B : Int) < y.2.2.2 := by rcases y2 with c | c; exact c; omega
        exact absurd (n4 i (by omega) hiS) hine
end Go.Proofs.Ytndpkonihcebeaa.Whl
