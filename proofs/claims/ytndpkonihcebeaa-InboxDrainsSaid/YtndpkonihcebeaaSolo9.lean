/- Layer 9's laws, in plain Lean: a task alone. -/
import Derived.Test.YtndpkonihcebeaaPl9
import Derived.Test.YtndpkonihcebeaaGrp9
namespace Go.Proofs.Ytndpkonihcebeaa.Kod.Nine
open Go.RowKit Go.Proofs.Ytndpkonihcebeaa Go.Proofs.Ytndpkonihcebeaa.Cell Go.Proofs.Ytndpkonihcebeaa.Wd
set_option linter.unusedVariables false
set_option linter.unusedSimpArgs false

/-- The box, the free ones, and who is dead. -/
structure Two (nn : Nat) (dead : Int → Bool) (xs bl fl : List Int) : Prop where
  len : xs.length = 2 + 2 * nn
  few : nn ≤ 100
  bx : Chn nn xs (ix (xs.getD 0 0)) bl
  fr : Chn nn xs (ix (xs.getD 1 0)) fl
  dd : ∀ i : Int, 0 ≤ i → i < nn → dead i = decide (xs.getD (2 + (nn : Int) + i).toNat 0 = 1)
/-- Dead ones that come first are freed. -/
def helpB (dead : Int → Bool) : List Int → List Int → List Int × List Int
  | [], fl => ([], fl)
  | i :: b, fl => if dead i then helpB dead b (i :: fl) else (i :: b, fl)
/-- A Put. -/
def putR (dead : Int → Bool) (z : List Int × List Int) (t : Int) : List Int × List Int := (t :: (helpB dead z.1 z.2).1, (helpB dead z.1 z.2).2)
/-- Drains: all is taken once. -/
def drR (o n : Nat) (l : List Int) (ow : List (List Int × List Int)) : List (List Int × List Int) := match ow[o]? with
  | none => ow
  | some y => ow.set o (y.1 ++ l, y.2 ++ List.replicate (n + 1) ((y.1 ++ l).length : Int))
/-- What a task that is alone comes to. -/
def fin9 (dead : Int → Bool) (bl fl rl : List Int) (ow : List (List Int × List Int)) : K9 → List Int × List Int × List (List Int × List Int)
  | .done => (bl, fl, ow)
  | .putL _ t l | .putD _ t l _ | .putS _ t l _ | .putC _ t l _ | .putN _ t l _ | .putM _ t l _ _ => (((t :: l).foldl (putR dead) (bl, fl)).1, ((t :: l).foldl (putR dead) (bl, fl)).2, ow)
  | .freL _ t l i | .freS _ t l i _ | .freC _ t l i _ => (((t :: l).foldl (putR dead) (bl, i :: fl)).1, ((t :: l).foldl (putR dead) (bl, i :: fl)).2, ow)
  | .drL o n | .drC o n _ => ([], fl, drR o n bl ow)
  | .eaL o n _ | .eaI o n _ => (bl, fl, drR o n rl ow)
/-- How many steps it takes at most. -/
def cost9 (bl rl : List Int) : K9 → Nat
  | .done => 0
  | .putL _ _ l => 4 + 7 * bl.length + 11 * l.length
  | .putD _ _ l _ => 3 + 7 * bl.length + 11 * l.length
  | .putS _ _ l _ => 2 + 7 * bl.length + 11 * l.length
  | .putC _ _ l _ => 1 + 7 * bl.length + 11 * l.length
  | .putN _ _ l _ => 2 + 7 * bl.length + 11 * l.length
  | .putM _ _ l _ _ => 1 + 7 * bl.length + 11 * l.length
  | .freL _ _ l _ => 7 + 7 * bl.length + 11 * l.length
  | .freS _ _ l _ _ => 6 + 7 * bl.length + 11 * l.length
  | .freC _ _ l _ _ => 5 + 7 * bl.length + 11 * l.length
  | .drL _ n => 2 + 2 * bl.length + 2 * n
  | .drC _ n _ => 1 + 2 * bl.length + 2 * n
  | .eaL _ n _ => 2 * rl.length + 2 * n
  | .eaI _ n _ => 1 + 2 * rl.length + 2 * n
/-- Tickets that are apart, and there. -/
def Apart (nn : Nat) (l : List Int) : Prop := l.Nodup ∧ ∀ i ∈ l, 0 ≤ i ∧ i < nn
/-- A task that is alone is under way. -/
def So (nn : Nat) (dead : Int → Bool) (xs bl fl rl : List Int) (ow : List (List Int × List Int)) : K9 → Prop
  | .done => rl = []
  | .putL d t l => rl = [] ∧ d = false ∧ Apart nn (bl ++ fl ++ t :: l)
  | .putD d t l h => rl = [] ∧ d = false ∧ Apart nn (bl ++ fl ++ t :: l) ∧ h = xs.getD 0 0 ∧ 0 ≤ ix h
  | .putS d t l h => rl = [] ∧ d = false ∧ Apart nn (bl ++ fl ++ t :: l) ∧ h = xs.getD 0 0 ∧ helpB dead bl fl = (bl, fl)
  | .putC d t l h => rl = [] ∧ d = false ∧ Apart nn (bl ++ fl ++ t :: l) ∧ h = xs.getD 0 0 ∧ helpB dead bl fl = (bl, fl) ∧ xs.getD (t + 2).toNat 0 = ix h + 1
  | .putN d t l h => rl = [] ∧ d = false ∧ Apart nn (bl ++ fl ++ t :: l) ∧ h = xs.getD 0 0 ∧ 0 ≤ ix h ∧ dead (ix h) = true
  | .putM d t l h x => rl = [] ∧ d = false ∧ Apart nn (bl ++ fl ++ t :: l) ∧ h = xs.getD 0 0 ∧ 0 ≤ ix h ∧ dead (ix h) = true ∧ x = xs.getD (ix h + 2).toNat 0
  | .freL d t l i => rl = [] ∧ d = false ∧ Apart nn (bl ++ (i :: fl) ++ t :: l)
  | .freS d t l i h => rl = [] ∧ d = false ∧ Apart nn (bl ++ (i :: fl) ++ t :: l) ∧ h = xs.getD 1 0
  | .freC d t l i h => rl = [] ∧ d = false ∧ Apart nn (bl ++ (i :: fl) ++ t :: l) ∧ h = xs.getD 1 0 ∧ xs.getD (i + 2).toNat 0 = ix h + 1
  | .drL o n => rl = [] ∧ Apart nn (bl ++ fl) ∧ ∃ y, ow[o]? = some y ∧ y.1.length + bl.length ≤ 1000 ∧ y.2.length + n ≤ 1000
  | .drC o n h => rl = [] ∧ Apart nn (bl ++ fl) ∧ h = xs.getD 0 0 ∧ 0 ≤ ix h ∧ ∃ y, ow[o]? = some y ∧ y.1.length + bl.length ≤ 1000 ∧ y.2.length + n ≤ 1000
  | .eaL o n f => bl = [] ∧ Apart nn (rl ++ fl) ∧ 0 ≤ f ∧ Chn nn xs f rl ∧ ∃ y, ow[o]? = some y ∧ y.1.length + rl.length ≤ 1000 ∧ y.2.length + n ≤ 1000
  | .eaI o n x => bl = [] ∧ Apart nn (rl ++ fl) ∧ Chn nn xs (nx x) rl ∧ ∃ y, ow[o]? = some y ∧ y.1.length + rl.length ≤ 1000 ∧ y.2.length + n ≤ 1000
/-- A step of a task that is alone. -/
def Steps9 (nn : Nat) (dead : Int → Bool) (bl fl rl : List Int) (σ : St R9) (k : K9) : Prop := ∃ k' σ' bl' fl' rl', next9 nn k σ = some (k', σ') ∧ Two nn dead σ'.xs bl' fl' ∧ So nn dead σ'.xs bl' fl' rl' σ'.r.own k' ∧ fin9 dead bl' fl' rl' σ'.r.own k' = fin9 dead bl fl rl σ.r.own k ∧ cost9 bl' rl' k' < cost9 bl rl k ∧ σ'.r.ended = σ.r.ended ∧ σ'.r.own.length = σ.r.own.length ∧ σ'.steps = σ.steps ∧ σ'.c ≤ σ.c + 1
section
variable {nn : Nat} {dead : Int → Bool} {bl fl rl : List Int} {σ : St R9} {d : Bool} {t i h x : Int} {l : List Int} {o n : Nat}
theorem helpB_dead {b : List Int} (hd : dead i = true) : helpB dead (i :: b) fl = helpB dead b (i :: fl) := by
  simp [helpB, hd]
theorem helpB_live {b : List Int} (hd : dead i = false) : helpB dead (i :: b) fl = (i :: b, fl) := by
  simp [helpB, hd]
theorem solo_putL (T : Two nn dead σ.xs bl fl) (S : So nn dead σ.xs bl fl rl σ.r.own (.putL d t l)) : Steps9 nn dead bl fl rl σ (.putL d t l) := by
  obtain ⟨rfl, rfl, ha⟩ := S
  have hl := T.len
  have hn : next9 nn (.putL false t l) σ = if ix (σ.xs.getD 0 0) < 0 then some (.putS false t l (σ.xs.getD 0 0), { σ with c := σ.c + 1 }) else some (.putD false t l (σ.xs.getD 0 0), { σ with c := σ.c + 1 }) := by
    simp only [next9]
    rw [ld_at σ (by omega) (by omega)]
    rfl
  by_cases hc : ix (σ.xs.getD 0 0) < 0
  · obtain rfl := T.bx.nil hc
    rw [if_pos hc] at hn
    exact ⟨_, _, [], fl, [], hn, T, ⟨rfl, rfl, ha, rfl, rfl⟩, rfl, by simp [cost9], rfl, rfl, rfl, by simp⟩
  · rw [if_neg hc] at hn
    exact ⟨_, _, bl, fl, [], hn, T, ⟨rfl, rfl, ha, rfl, by omega⟩, rfl, by simp [cost9], rfl, rfl, rfl, by simp⟩
theorem solo_putD (T : Two nn dead σ.xs bl fl) (S : So nn dead σ.xs bl fl rl σ.r.own (.putD d t l h)) : Steps9 nn dead bl fl rl σ (.putD d t l h) := by
  obtain ⟨rfl, rfl, ha, rfl, hi⟩ := S
  have hl := T.len
  obtain ⟨b, rfl, hb, hb1, hb2, hb3⟩ := T.bx.cons hi
  have hn : next9 nn (.putD false t l (σ.xs.getD 0 0)) σ = if σ.xs.getD (2 + (nn : Int) + ix (σ.xs.getD 0 0)).toNat 0 = 1 then some (.putN false t l (σ.xs.getD 0 0), { σ with c := σ.c + 1 }) else some (.putS false t l (σ.xs.getD 0 0), { σ with c := σ.c + 1 }) := by
    simp only [next9]
    rw [ld_at σ (by omega) (by omega)]
  have hd := T.dd _ hi hb1
  by_cases hc : σ.xs.getD (2 + (nn : Int) + ix (σ.xs.getD 0 0)).toNat 0 = 1
  · rw [if_pos hc] at hn
    exact ⟨_, _, _, fl, [], hn, T, ⟨rfl, rfl, ha, rfl, hi, by rw [hd]; exact decide_eq_true hc⟩, rfl, by simp [cost9], rfl, rfl, rfl, by simp⟩
  · rw [if_neg hc] at hn
    exact ⟨_, _, _, fl, [], hn, T, ⟨rfl, rfl, ha, rfl, helpB_live (by rw [hd]; exact decide_eq_false hc)⟩, rfl, by simp [cost9], rfl, rfl, rfl, by simp⟩
theorem Two.link (T : Two nn dead σ.xs bl fl) {v : Int} (h0 : 0 ≤ i) (h1 : i < nn) (hb : i ∉ bl) (hf : i ∉ fl) : Two nn dead (σ.xs.set (i + 2).toNat v) bl fl := by
  have e0 : (σ.xs.set (i + 2).toNat v).getD 0 0 = σ.xs.getD 0 0 := getD_set _ _ _ _ (by omega)
  have e1 : (σ.xs.set (i + 2).toNat v).getD 1 0 = σ.xs.getD 1 0 := getD_set _ _ _ _ (by omega)
  refine ⟨by simpa using T.len, T.few, ?_, ?_, fun j j0 j1 => ?_⟩
  · rw [e0]
    refine T.bx.set fun k hk e => ?_
    have := (T.bx.mem k hk).1
    exact hb ((show k = i by omega) ▸ hk)
  · rw [e1]
    refine T.fr.set fun k hk e => ?_
    have := (T.fr.mem k hk).1
    exact hf ((show k = i by omega) ▸ hk)
  · rw [getD_set _ _ _ _ (by omega)]
    exact T.dd j j0 j1
theorem solo_putS (T : Two nn dead σ.xs bl fl) (S : So nn dead σ.xs bl fl rl σ.r.own (.putS d t l h)) : Steps9 nn dead bl fl rl σ (.putS d t l h) := by
  obtain ⟨rfl, rfl, ha, rfl, hh⟩ := S
  have hl := T.len
  have ht := ha.2 t (by simp)
  have hn : next9 nn (.putS false t l (σ.xs.getD 0 0)) σ = some (.putC false t l (σ.xs.getD 0 0), { σ with c := σ.c + 1, xs := σ.xs.set (t + 2).toNat (ix (σ.xs.getD 0 0) + 1) }) := by
    simp only [next9, lk2]
    rw [sto_at σ (by omega) (by omega), Int.add_comm 2 t]
  have hnot : t ∉ bl ∧ t ∉ fl := by
    have h1 := (List.nodup_append.1 ha.1).2.2
    exact ⟨fun e => h1 t (by simp [e]) t (by simp) rfl, fun e => h1 t (by simp [e]) t (by simp) rfl⟩
  refine ⟨_, _, bl, fl, [], hn, T.link ht.1 ht.2 hnot.1 hnot.2, ⟨rfl, rfl, ha, (getD_set _ _ _ _ (by omega)).symm, hh, getD_set_self _ _ _ (by omega)⟩, rfl, by simp [cost9], rfl, rfl, rfl, by simp⟩
theorem Apart.perm {l l' : List Int} (h : Apart nn l) (hp : l'.Perm l) : Apart nn l' := ⟨hp.nodup_iff.2 h.1, fun i hi => h.2 i (hp.mem_iff.1 hi)⟩
theorem Two.head (T : Two nn dead σ.xs bl fl) {v : Int} {bl' : List Int} (hb : Chn nn σ.xs (ix v) bl') : Two nn dead (σ.xs.set 0 v) bl' fl := by
  have hl := T.len
  refine ⟨by simpa using T.len, T.few, ?_, ?_, fun j j0 j1 => ?_⟩
  · rw [getD_set_self _ _ _ (by omega)]
    exact hb.set fun k hk => by have := (hb.mem k hk).1; omega
  · rw [getD_set _ _ _ _ (by omega)]
    exact T.fr.set fun k hk => by have := (T.fr.mem k hk).1; omega
  · rw [getD_set _ _ _ _ (by omega)]
    exact T.dd j j0 j1
theorem Two.free (T : Two nn dead σ.xs bl fl) {v : Int} {fl' : List Int} (hb : Chn nn σ.xs (ix v) fl') : Two nn dead (σ.xs.set 1 v) bl fl' := by
  have hl := T.len
  have hnn : σ.xs.length ≠ 3 := by omega
  by_cases h1 : 1 < σ.xs.length
  · refine ⟨by simpa using T.len, T.few, ?_, ?_, fun j j0 j1 => ?_⟩
    · rw [getD_set _ _ _ _ (by omega)]
      exact T.bx.set fun k hk => by have := (T.bx.mem k hk).1; omega
    · rw [getD_set_self _ _ _ h1]
      exact hb.set fun k hk => by have := (hb.mem k hk).1; omega
    · rw [getD_set _ _ _ _ (by omega)]
      exact T.dd j j0 j1
  · omega
theorem Chn.push {xs bl : List Int} {h : Int} (hb : Chn nn xs (ix h) bl) (h0 : 0 ≤ t) (h1 : t < nn) (hn : nn ≤ 100) (hx : xs.getD (t + 2).toNat 0 = ix h + 1) : Chn nn xs (ix (turnTo h t)) (t :: bl) := by
  have := hb.lo
  rw [ix_turn (by omega) (by omega)]
  refine ⟨rfl, h0, h1, by rw [hx]; omega, by rw [hx]; omega, ?_⟩
  rw [hx, show ix h + 1 - 1 = ix h by omega]
  exact hb
theorem fin_put (hh : helpB dead bl fl = (bl, fl)) : fin9 dead (t :: bl) fl [] σ.r.own (kput false l) = fin9 dead bl fl [] σ.r.own (.putC false t l h) := by
  have e : putR dead (bl, fl) t = (t :: bl, fl) := by simp [putR, hh]
  cases l with
  | nil => simp [kput, fin9, e]
  | cons u l => simp [kput, fin9, e]
theorem solo_putC (T : Two nn dead σ.xs bl fl) (hE : σ.r.ended.length < 1000000) (S : So nn dead σ.xs bl fl rl σ.r.own (.putC d t l h)) : Steps9 nn dead bl fl rl σ (.putC d t l h) := by
  obtain ⟨rfl, rfl, ha, rfl, hh, hx⟩ := S
  have hl := T.len
  have hfew := T.few
  have ht := ha.2 t (by simp)
  have hn : next9 nn (.putC false t l (σ.xs.getD 0 0)) σ = some (kput false l, { σ with c := σ.c + 1, xs := σ.xs.set 0 (turnTo (σ.xs.getD 0 0) t) }) := by
    simp only [next9]
    rw [cas_at σ (i := 0) (old := σ.xs.getD 0 0) (by omega) (by omega) rfl]
    simp only [if_true, putted, hE, Bool.false_eq_true, false_and, if_false]
    exact puts9_at _ _ _
  refine ⟨_, _, t :: bl, fl, [], hn, T.head (T.bx.push ht.1 ht.2 hfew hx), ?_, fin_put hh, ?_, rfl, rfl, rfl, by simp⟩
  · cases l with
    | nil => exact rfl
    | cons u l =>
      refine ⟨rfl, rfl, ha.perm ?_⟩
      have := (List.perm_middle (a := t) (l₁ := bl ++ fl) (l₂ := u :: l))
      simpa using this.symm
  · cases l with
    | nil => simp only [kput, cost9]; omega
    | cons u l => simp only [kput, cost9, List.length_cons]; omega
theorem solo_putN (T : Two nn dead σ.xs bl fl) (S : So nn dead σ.xs bl fl rl σ.r.own (.putN d t l h)) : Steps9 nn dead bl fl rl σ (.putN d t l h) := by
  obtain ⟨rfl, rfl, ha, rfl, hi, hd⟩ := S
  have hl := T.len
  obtain ⟨b, rfl, hb, hb1, hb2, hb3⟩ := T.bx.cons hi
  have hn : next9 nn (.putN false t l (σ.xs.getD 0 0)) σ = some (.putM false t l (σ.xs.getD 0 0) (σ.xs.getD (ix (σ.xs.getD 0 0) + 2).toNat 0), { σ with c := σ.c + 1 }) := by
    simp only [next9, lk2]
    rw [ld_at σ (by omega) (by omega), Int.add_comm 2 (ix _)]
  exact ⟨_, _, _, fl, [], hn, T, ⟨rfl, rfl, ha, rfl, hi, hd, rfl⟩, rfl, by simp [cost9], rfl, rfl, rfl, by simp⟩
theorem solo_putM (T : Two nn dead σ.xs bl fl) (S : So nn dead σ.xs bl fl rl σ.r.own (.putM d t l h x)) : Steps9 nn dead bl fl rl σ (.putM d t l h x) := by
  obtain ⟨rfl, rfl, ha, rfl, hi, hd, rfl⟩ := S
  have hl := T.len
  have hfew := T.few
  obtain ⟨b, rfl, hb, hb1, hb2, hb3⟩ := T.bx.cons hi
  have hnx : nx (σ.xs.getD (ix (σ.xs.getD 0 0) + 2).toNat 0) = σ.xs.getD (ix (σ.xs.getD 0 0) + 2).toNat 0 - 1 := nx_small hb2 (by omega)
  generalize hx : σ.xs.getD (ix (σ.xs.getD 0 0) + 2).toNat 0 = x at *
  have hn : next9 nn (.putM false t l (σ.xs.getD 0 0) x) σ = some (.freL false t l (ix (σ.xs.getD 0 0)), { σ with c := σ.c + 1, xs := σ.xs.set 0 (turnTo (σ.xs.getD 0 0) (nx x)) }) := by
    simp only [next9]
    rw [cas_at σ (i := 0) (old := σ.xs.getD 0 0) (by omega) (by omega) rfl]
    rfl
  refine ⟨_, _, b, fl, [], hn, T.head (by rw [ix_turn (by omega) (by omega), hnx]; exact hb), ⟨rfl, rfl, ha.perm ?_⟩, ?_, by simp [cost9]; omega, rfl, rfl, rfl, by simp⟩
  · generalize ix (σ.xs.getD 0 0) = i0
    have := (List.perm_middle (a := i0) (l₁ := b) (l₂ := fl ++ t :: l))
    simp only [List.append_assoc, List.cons_append] at this ⊢
    exact this
  · generalize ix (σ.xs.getD 0 0) = i0 at *
    have e : putR dead (i0 :: b, fl) t = putR dead (b, i0 :: fl) t := by
      unfold putR
      simp only [helpB_dead hd]
    simp only [fin9, List.foldl_cons, e]
theorem solo_freL (T : Two nn dead σ.xs bl fl) (S : So nn dead σ.xs bl fl rl σ.r.own (.freL d t l i)) : Steps9 nn dead bl fl rl σ (.freL d t l i) := by
  obtain ⟨rfl, rfl, ha⟩ := S
  have hl := T.len
  have ht := ha.2 t (by simp)
  have hn : next9 nn (.freL false t l i) σ = some (.freS false t l i (σ.xs.getD 1 0), { σ with c := σ.c + 1 }) := by
    simp only [next9]
    rw [ld_at σ (by omega) (by omega)]
    rfl
  exact ⟨_, _, bl, fl, [], hn, T, ⟨rfl, rfl, ha, rfl⟩, rfl, by simp [cost9], rfl, rfl, rfl, by simp⟩
theorem solo_freS (T : Two nn dead σ.xs bl fl) (S : So nn dead σ.xs bl fl rl σ.r.own (.freS d t l i h)) : Steps9 nn dead bl fl rl σ (.freS d t l i h) := by
  obtain ⟨rfl, rfl, ha, rfl⟩ := S
  have hl := T.len
  have ht := ha.2 i (by simp)
  have hn : next9 nn (.freS false t l i (σ.xs.getD 1 0)) σ = some (.freC false t l i (σ.xs.getD 1 0), { σ with c := σ.c + 1, xs := σ.xs.set (i + 2).toNat (ix (σ.xs.getD 1 0) + 1) }) := by
    simp only [next9, lk2]
    rw [sto_at σ (by omega) (by omega), Int.add_comm 2 i]
  have ha2 : (bl ++ (i :: (fl ++ t :: l))).Nodup := by simpa using ha.1
  have hnot : i ∉ bl ∧ i ∉ fl := by
    have h1 := List.nodup_append.1 ha2
    refine ⟨fun e => h1.2.2 i e i (by simp) rfl, fun e => ?_⟩
    have := (List.nodup_cons.1 h1.2.1).1
    simp [e] at this
  refine ⟨_, _, bl, fl, [], hn, T.link ht.1 ht.2 hnot.1 hnot.2, ⟨rfl, rfl, ha, (getD_set _ _ _ _ (by omega)).symm, getD_set_self _ _ _ (by omega)⟩, rfl, by simp [cost9], rfl, rfl, rfl, by simp⟩
theorem solo_freC (T : Two nn dead σ.xs bl fl) (S : So nn dead σ.xs bl fl rl σ.r.own (.freC d t l i h)) : Steps9 nn dead bl fl rl σ (.freC d t l i h) := by
  obtain ⟨rfl, rfl, ha, rfl, hx⟩ := S
  have hl := T.len
  have ht := ha.2 i (by simp)
  have hn : next9 nn (.freC false t l i (σ.xs.getD 1 0)) σ = some (.putL false t l, { σ with c := σ.c + 1, xs := σ.xs.set 1 (turnTo (σ.xs.getD 1 0) i) }) := by
    simp only [next9]
    rw [cas_at σ (i := 1) (old := σ.xs.getD 1 0) (by omega) (by omega) rfl]
    rfl
  exact ⟨_, _, bl, i :: fl, [], hn, T.free (T.fr.push ht.1 ht.2 T.few hx), ⟨rfl, rfl, ha⟩, rfl, by simp [cost9], rfl, rfl, rfl, by simp⟩
theorem drained_at {y : List Int × List Int} (hy : σ.r.own[o]? = some y) (h1 : y.1.length ≤ 1000) (h2 : y.2.length + n ≤ 1000) : drained o n σ = some (kdr o n, endS σ o y) := by
  unfold drained
  rw [hy]
  simp only
  rw [if_pos ⟨by omega, by omega⟩]
  exact drains9_at _ _ _
theorem fin_dr {y : List Int × List Int} (hy : σ.r.own[o]? = some y) : fin9 dead [] fl [] (endS σ o y).r.own (kdr o n) = ([], fl, drR o n [] σ.r.own) := by
  have hlt := (List.getElem?_eq_some_iff.1 hy).1
  cases n with
  | zero => simp [kdr, fin9, endS, drR, hy]
  | succ n => simp [kdr, fin9, endS, drR, hy, List.getElem?_set_self hlt, List.replicate_succ]
/-- Behind a Drain. -/
theorem solo_end {σ' : St R9} {K : Nat} {k : K9} {y : List Int × List Int} (T : Two nn dead σ'.xs [] fl) (hA : Apart nn fl) (hy : σ'.r.own[o]? = some y) (h1 : y.1.length ≤ 1000) (h2 : y.2.length + n ≤ 1000) (hn : next9 nn k σ = drained o n σ') (hf : fin9 dead bl fl rl σ.r.own k = ([], fl, drR o n [] σ'.r.own)) (hc : 2 * n < cost9 bl rl k) (he : σ'.r.ended = σ.r.ended) (hl : σ'.r.own.length = σ.r.own.length) (hs : σ'.steps = σ.steps) (hcc : σ'.c ≤ σ.c + 1) : Steps9 nn dead bl fl rl σ k := by
  have hlt := (List.getElem?_eq_some_iff.1 hy).1
  refine ⟨kdr o n, endS σ' o y, [], fl, [], hn.trans (drained_at hy h1 h2), T, ?_, (fin_dr hy).trans hf.symm, ?_, he, by simpa [endS] using hl, hs, hcc⟩
  · cases n with
    | zero => exact rfl
    | succ n => exact ⟨rfl, by simpa using hA, (y.1, y.2 ++ [(y.1.length : Int)]), by simp [endS, List.getElem?_set_self hlt], by simpa using h1, by simp; omega⟩
  · cases n with
    | zero =>
      generalize cost9 bl rl k = q at hc ⊢
      simp only [kdr, cost9]
      omega
    | succ n =>
      generalize cost9 bl rl k = q at hc ⊢
      simp only [kdr, cost9, List.length_nil]
      omega
theorem solo_drL (T : Two nn dead σ.xs bl fl) (S : So nn dead σ.xs bl fl rl σ.r.own (.drL o n)) : Steps9 nn dead bl fl rl σ (.drL o n) := by
  obtain ⟨rfl, ha, y, hy, h1, h2⟩ := S
  have hl := T.len
  by_cases hc : ix (σ.xs.getD 0 0) < 0
  · obtain rfl := T.bx.nil hc
    refine solo_end (σ' := { σ with c := σ.c + 1 }) (K := 0) T (by simpa using ha) hy (by simpa using h1) h2 ?_ rfl (by simp [cost9]) rfl rfl rfl (by simp)
    simp only [next9]
    rw [ld_at σ (by omega) (by omega)]
    simp only [Int.toNat_zero, if_pos hc, each9]
    rfl
  · refine ⟨.drC o n (σ.xs.getD 0 0), { σ with c := σ.c + 1 }, bl, fl, [], ?_, T, ⟨rfl, ha, rfl, by omega, y, hy, h1, h2⟩, rfl, by simp [cost9], rfl, rfl, rfl, by simp⟩
    simp only [next9]
    rw [ld_at σ (by omega) (by omega)]
    simp only [Int.toNat_zero, if_neg hc]
theorem solo_drC (T : Two nn dead σ.xs bl fl) (S : So nn dead σ.xs bl fl rl σ.r.own (.drC o n h)) : Steps9 nn dead bl fl rl σ (.drC o n h) := by
  obtain ⟨rfl, ha, rfl, hi, y, hy, h1, h2⟩ := S
  have hl := T.len
  have hlo := ix_lo (σ.xs.getD 0 0)
  refine ⟨.eaL o n (ix (σ.xs.getD 0 0)), { σ with c := σ.c + 1, xs := σ.xs.set 0 (turnTo (σ.xs.getD 0 0) (-1)) }, [], fl, bl, ?_, T.head (by rw [ix_turn (by omega) (by omega)]; exact rfl), ⟨rfl, ha, hi, ?_, y, hy, h1, h2⟩, rfl, by simp [cost9], rfl, rfl, rfl, by simp⟩
  · simp only [next9]
    rw [cas_at σ (i := 0) (old := σ.xs.getD 0 0) (by omega) (by omega) rfl]
    simp only [if_true, each9, if_neg (show ¬ ix (σ.xs.getD 0 0) < 0 by omega), if_pos hlo.2]
    rfl
  · exact T.bx.set fun k hk => by have := (T.bx.mem k hk).1; omega
theorem solo_eaL {f : Int} (T : Two nn dead σ.xs bl fl) (S : So nn dead σ.xs bl fl rl σ.r.own (.eaL o n f)) : Steps9 nn dead bl fl rl σ (.eaL o n f) := by
  obtain ⟨rfl, ha, hf, hch, y, hy, h1, h2⟩ := S
  have hl := T.len
  have hfew := T.few
  have hlt := (List.getElem?_eq_some_iff.1 hy).1
  obtain ⟨r, rfl, hb, hb1, hb2, hb3⟩ := hch.cons hf
  have hnx := nx_small hb2 (by omega)
  simp only [List.length_cons] at h1
  refine ⟨.eaI o n (σ.xs.getD (f + 2).toNat 0), tookS { σ with c := σ.c + 1 } o y f, [], fl, r, ?_, T, ⟨rfl, ?_, ?_, (y.1 ++ [f], y.2), by simp [tookS, List.getElem?_set_self hlt], by simp; omega, h2⟩, ?_, by simp [cost9]; omega, rfl, by simp [tookS], rfl, by simp [tookS]⟩
  · simp only [next9, lk2]
    rw [ld_at σ (by omega) (by omega), Int.add_comm 2 f]
    unfold took
    simp only [hy]
    rw [if_pos (by omega)]
    rfl
  · exact ⟨(List.nodup_cons.1 ha.1).2, fun i hi => ha.2 i (List.mem_cons_of_mem _ hi)⟩
  · rw [hnx]; exact hb
  · simp [fin9, drR, hy, tookS, List.getElem?_set_self hlt]
theorem solo_eaI (T : Two nn dead σ.xs bl fl) (S : So nn dead σ.xs bl fl rl σ.r.own (.eaI o n x)) : Steps9 nn dead bl fl rl σ (.eaI o n x) := by
  obtain ⟨rfl, ha, hch, y, hy, h1, h2⟩ := S
  have hlo := hch.lo
  have hfew := T.few
  by_cases hc : nx x < 0
  · obtain rfl := hch.nil hc
    refine solo_end (σ' := σ) (K := 0) T (by simpa using ha) hy (by simpa using h1) h2 ?_ rfl (by simp [cost9]) rfl rfl rfl (by omega)
    simp only [next9, each9, if_pos hc]
  · refine ⟨.eaL o n (nx x), σ, [], fl, rl, ?_, T, ⟨rfl, ha, by omega, hch, y, hy, h1, h2⟩, rfl, by simp [cost9], rfl, rfl, rfl, by omega⟩
    simp only [next9, each9, if_neg hc, if_pos (show nx x < 4294967295 by omega)]
theorem solo_step {k : K9} (T : Two nn dead σ.xs bl fl) (hE : σ.r.ended.length < 1000000) (S : So nn dead σ.xs bl fl rl σ.r.own k) (hk : k ≠ .done) : Steps9 nn dead bl fl rl σ k := by
  cases k with
  | done => exact absurd rfl hk
  | putL => exact solo_putL T S
  | putD => exact solo_putD T S
  | putS => exact solo_putS T S
  | putC => exact solo_putC T hE S
  | putN => exact solo_putN T S
  | putM => exact solo_putM T S
  | freL => exact solo_freL T S
  | freS => exact solo_freS T S
  | freC => exact solo_freC T S
  | drL => exact solo_drL T S
  | drC => exact solo_drC T S
  | eaL => exact solo_eaL T S
  | eaI => exact solo_eaI T S
end
end Go.Proofs.Ytndpkonihcebeaa.Kod.Nine
