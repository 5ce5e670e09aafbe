/- Layer 9's laws: what drains took out, in memory. -/
import Derived.Test.YtndpkonihcebeaaKnd9
namespace Go.Proofs.Ytndpkonihcebeaa.Kod.Nine
open Go.RowKit Go.Proofs.Ytndpkonihcebeaa Go.Proofs.Ytndpkonihcebeaa.Cell Go.Proofs.Ytndpkonihcebeaa.Wd
set_option linter.unusedVariables false
set_option linter.unusedSimpArgs false

/-- The slices that grow. -/
inductive Vr where
  | got (o : Nat)
  | ends (o : Nat)
  | ended
  deriving DecidableEq
/-- Where each lies, and what it holds. -/
def V9 (eb : Option Nat) (r : R9) (gh : List Nat) : Vr → Option (Nat × Nat × List Int)
  | .got o => match gh[o]?, r.own[o]? with
    | some g, some x => some (g, 0, x.1)
    | _, _ => none
  | .ends o => match gh[o]?, r.own[o]? with
    | some g, some x => some (g, 1, x.2)
    | _, _ => none
  | .ended => eb.map fun g => (g, 0, r.ended)
/-- They lie so. -/
structure Vars (own : Nat → Prop) (w : World) (V : Vr → Option (Nat × Nat × List Int)) (sv : Vr → Value) : Prop where
  mine : ∀ i g o xs, V i = some (g, o, xs) → own g
  blk : ∀ i g o xs, V i = some (g, o, xs) → ∃ R t, w.heap[g]? = some (.cells R t (0, 0)) ∧ t ≠ 3 ∧ R[o]? = some (sv i)
  row : ∀ i g o xs, V i = some (g, o, xs) → w.ownsRow 0 3 1 (sv i) xs.length (xs.map (.int .i64))
  rown : ∀ i g o xs k, V i = some (g, o, xs) → (sv i).ownBlock = some k → own k
  apart : ∀ i j x y k, i ≠ j → V i = some x → V j = some y → (sv i).ownBlock = some k → (sv j).ownBlock ≠ some k
  spot : ∀ i j g o xs o' ys, i ≠ j → V i = some (g, o, xs) → V j = some (g, o', ys) → o ≠ o'
theorem row_block {w : World} {v : Value} {n : Nat} {xs : List Value} {k : Nat} (h : w.ownsRow 0 3 1 v n xs) (hk : v.ownBlock = some k) : ∃ cur, w.heap[k]? = some (.cells cur 3 (0, 0)) := by
  obtain ⟨_, h1⟩ := h
  rcases h1 with ⟨rfl, _⟩ | ⟨g, cap, cur, rfl, _, hg, _⟩
  · simp [Value.ownBlock] at hk
  · obtain rfl : g = k := by simpa [Value.ownBlock] using hk
    exact ⟨cur, hg⟩
theorem row_later {w w' : World} {v : Value} {n : Nat} {xs : List Value} (h : w.ownsRow 0 3 1 v n xs) (hs : ∀ k : Nat, v.ownBlock = some k → w'.heap[k]? = w.heap[k]?) : w'.ownsRow 0 3 1 v n xs := by
  obtain ⟨h0, h1⟩ := h
  refine ⟨h0, ?_⟩
  rcases h1 with h1 | ⟨g, cap, cur, rfl, hb, hg, hr⟩
  · exact Or.inl h1
  · exact Or.inr ⟨g, cap, cur, rfl, hb, (hs g rfl).trans hg, hr⟩
/-- Blocks of other kinds are other blocks. -/
theorem kind_ne {w : World} {k l : Nat} {c d : Array Value} {t u : TypeId} (h1 : w.heap[k]? = some (.cells c t (0, 0))) (h2 : w.heap[l]? = some (.cells d u (0, 0))) (h : t ≠ u) : k ≠ l := by
  rintro rfl
  rw [h1] at h2
  simp only [Option.some.injEq, Obj.cells.injEq] at h2
  exact h h2.2.1
theorem lt_of_at {w : World} {k : Nat} {o : Obj} (h : w.heap[k]? = some o) : k < w.heap.size := (Array.getElem?_eq_some_iff.1 h).1
section
variable {own own' : Nat → Prop} {w w' : World} {V : Vr → Option (Nat × Nat × List Int)} {sv : Vr → Value}
theorem Vars.later (h : Vars own w V sv) (hs : ∀ k : Nat, own k → w'.heap[k]? = w.heap[k]?) : Vars own w' V sv :=
  ⟨h.mine, fun i g o xs hv => by
    obtain ⟨R, t, h1, h2, h3⟩ := h.blk i g o xs hv
    exact ⟨R, t, (hs g (h.mine i g o xs hv)).trans h1, h2, h3⟩, fun i g o xs hv => row_later (h.row i g o xs hv) (fun k hk => hs k (h.rown i g o xs k hv hk)), h.rown, h.apart, h.spot⟩
theorem Vars.ne {i j : Vr} {g o : Nat} {xs : List Int} {y : Nat × Nat × List Int} (h : Vars own w V sv) (hi : V i = some (g, o, xs)) (hj : V j = some y) : (sv j).ownBlock ≠ some g := fun e => by
  obtain ⟨g2, o2, ys⟩ := y
  obtain ⟨cur, hc⟩ := row_block (h.row j g2 o2 ys hj) e
  obtain ⟨R, t, h1, h2, _⟩ := h.blk i g o xs hi
  exact kind_ne h1 hc h2 rfl
/-- One of them is written. -/
theorem Vars.put {i : Vr} {g o : Nat} {xs : List Int} {x : Int} {s' : Value} (h : Vars own w V sv) (hi : V i = some (g, o, xs)) (hlt : ∀ k, own k → k < w.heap.size)
    (hw : Wrote (fun k => k = g ∨ (sv i).ownBlock = some k) w w') (hb : ∀ R t, w.heap[g]? = some (.cells R t (0, 0)) → w'.heap[g]? = some (.cells (R.setIfInBounds o s') t (0, 0)))
    (hr : w'.ownsRow 0 3 1 s' (xs.length + 1) (xs.map (.int .i64) ++ [.int .i64 x])) (hn : ∀ k, s'.ownBlock = some k → (sv i).ownBlock = some k ∨ w.heap.size ≤ k) :
    Vars (fun k => own k ∨ s'.ownBlock = some k) w' (fun j => if j = i then some (g, o, xs ++ [x]) else V j) (fun j => if j = i then s' else sv j) := by
  have hlr : ∀ j y k, V j = some y → (sv j).ownBlock = some k → k < w.heap.size := fun j ⟨g2, o2, ys⟩ k hj hk => hlt k (h.rown j g2 o2 ys k hj hk)
  have hnj : ∀ j y k, j ≠ i → V j = some y → (sv j).ownBlock = some k → s'.ownBlock ≠ some k := fun j y k hj hv hk e => by
    rcases hn k e with e2 | e2
    · exact h.apart i j _ _ k (fun e => hj e.symm) hi hv e2 hk
    · have := hlr j y k hv hk
      omega
  refine ⟨fun j g2 o2 ys hj => ?_, fun j g2 o2 ys hj => ?_, fun j g2 o2 ys hj => ?_, fun j g2 o2 ys k hj hk => ?_, fun j l y z k hjl hj hl hk => ?_, fun j l g2 o2 ys o3 zs hjl hj hl => ?_⟩
  · try simp only at hj
    split at hj
    · simp only [Option.some.injEq, Prod.mk.injEq] at hj
      obtain ⟨rfl, _, _⟩ := hj
      exact Or.inl (h.mine i _ _ _ hi)
    · exact Or.inl (h.mine j _ _ _ hj)
  · try simp only at hj ⊢
    split at hj
    · rename_i hji
      simp only [Option.some.injEq, Prod.mk.injEq] at hj
      obtain ⟨rfl, rfl, _⟩ := hj
      rw [if_pos hji]
      obtain ⟨R, t, h1, h2, h3⟩ := h.blk i _ _ _ hi
      refine ⟨_, t, hb R t h1, h2, ?_⟩
      have := (Array.getElem?_eq_some_iff.1 h3).1
      simp [Array.getElem?_setIfInBounds, this]
    · rename_i hji
      rw [if_neg hji]
      obtain ⟨R, t, h1, h2, h3⟩ := h.blk j _ _ _ hj
      by_cases hg : g2 = g
      · subst hg
        refine ⟨_, t, hb R t h1, h2, ?_⟩
        have := h.spot i j _ _ _ _ _ (fun e => hji e.symm) hi hj
        rw [Array.getElem?_setIfInBounds_ne this]
        exact h3
      · refine ⟨R, t, (hw.block g2 (lt_of_at h1) (fun e => ?_)).trans h1, h2, h3⟩
        rcases e with e | e
        · exact hg e
        · exact h.ne hj hi e
  · try simp only at hj ⊢
    split at hj
    · rename_i hji
      simp only [Option.some.injEq, Prod.mk.injEq] at hj
      obtain ⟨rfl, rfl, rfl⟩ := hj
      rw [if_pos hji]
      simpa using hr
    · rename_i hji
      rw [if_neg hji]
      refine row_later (h.row j _ _ _ hj) fun k hk => hw.block k (hlr j _ k hj hk) (fun e => ?_)
      rcases e with rfl | e
      · exact h.ne hi hj hk
      · exact h.apart i j _ _ k (fun e => hji e.symm) hi hj e hk
  · try simp only at hj hk
    split at hj
    · rename_i hji
      rw [if_pos hji] at hk
      exact Or.inr hk
    · rename_i hji
      rw [if_neg hji] at hk
      exact Or.inl (h.rown j _ _ _ k hj hk)
  · try simp only at hj hl hk ⊢
    by_cases hji : j = i
    · subst hji
      rw [if_pos rfl] at hk
      rw [if_neg (fun e => hjl e.symm)] at hl ⊢
      exact fun e => hnj l z k (fun e => hjl e.symm) hl e hk
    · rw [if_neg hji] at hj hk
      by_cases hli : l = i
      · rw [if_pos hli]
        exact hnj j y k hji hj hk
      · rw [if_neg hli] at hl ⊢
        exact h.apart j l y z k hjl hj hl hk
  · try simp only at hj hl
    by_cases hji : j = i
    · subst hji
      rw [if_pos rfl] at hj
      rw [if_neg (fun e => hjl e.symm)] at hl
      simp only [Option.some.injEq, Prod.mk.injEq] at hj
      obtain ⟨rfl, rfl, _⟩ := hj
      exact h.spot j l _ _ _ _ _ hjl hi hl
    · rw [if_neg hji] at hj
      by_cases hli : l = i
      · subst hli
        rw [if_pos rfl] at hl
        simp only [Option.some.injEq, Prod.mk.injEq] at hl
        obtain ⟨rfl, rfl, _⟩ := hl
        exact h.spot j l _ _ _ _ _ hjl hj hi
      · rw [if_neg hli] at hl
        exact h.spot j l _ _ _ _ _ hjl hj hl
end
def J9 (eb : Option Nat) (r : R9) (own : Nat → Prop) (gh : List Nat) (w : World) : Prop := gh.length = r.own.length ∧ ∃ sv, Vars own w (V9 eb r gh) sv
/-- The system of layer 9's laws. -/
def S9 (a b : Nat) (nn : Int) (eb : Option Nat) : Sys where
  R := R9
  K := K9
  nil := fun k => match k with | .done => true | _ => false
  next := next9 nn
  a := a
  b := b
  J := J9 eb
  stable := fun r own gh w w' hs ⟨hl, sv, h⟩ => ⟨hl, sv, h.later hs⟩
/-- The rest of Inv, when the rest's blocks are written. -/
theorem Inv.rest {S : Sys} {n : Nat} {σ : St S.R} {rs : List Value} {L : Lay} {w w' : World} {X own' : Nat → Prop} {r' : S.R} (h : Inv S n σ rs L w) (hw : Wrote X w w') (hX : ∀ k, X k → L.own k) (ho : ∀ k, own' k → (L.own k ∨ w.heap.size ≤ k) ∧ k < w'.heap.size) (hle : ∀ k, L.own k → own' k) (hJ : S.J r' own' L.gh w') :
    Inv S n { σ with r := r' } rs { L with own := own' } w' ∧ Ext S w L w' { L with own := own' } ∧ Keeps w L w' { L with own := own' } := by
  have hs := hw.size
  have ha := lt_of_at h.ar.ha
  have hb := lt_of_at h.ar.hb
  have hA := hw.block _ ha (fun e => (h.owna _ (hX _ e)).1 rfl)
  have hB := hw.block _ hb (fun e => (h.owna _ (hX _ e)).2.1 rfl)
  refine ⟨⟨arena_same h.ar hA hB, h.fuel, h.wide, h.len, h.nts, h.nst, fun i t v s h1 h2 h3 => ?_, h.few, h.once, fun t ht => ?_, fun k hk => ?_, hJ, fun k hk => ?_⟩, ⟨hw.os, hw.tape, hw.output, hs, fun k hk hn => ⟨fun e => ?_, ?_⟩, ⟨List.prefix_refl _, List.prefix_refl _⟩⟩, ⟨rfl, rfl, rfl, fun k hk => ?_⟩⟩
  · have ht : t ∈ L.ts := List.mem_of_getElem? h1
    exact (hw.block t (h.task_lt ht) (fun e => (h.tsa t ht).2.2 (hX _ e))).trans (h.task i t v s h1 h2 h3)
  · refine ⟨(h.tsa t ht).1, (h.tsa t ht).2.1, fun e => ?_⟩
    rcases (ho t e).1 with e | e
    · exact (h.tsa t ht).2.2 e
    · have := h.task_lt ht; omega
  · obtain ⟨h1, h2⟩ := ho k hk
    rcases h1 with h1 | h1
    · exact ⟨(h.owna k h1).1, (h.owna k h1).2.1, h2⟩
    · exact ⟨fun e => by omega, fun e => by omega, h2⟩
  · have hk' := h.scra k hk
    refine ⟨hk'.1, hk'.2.1, hk'.2.2.1, fun e => ?_, by omega⟩
    rcases (ho k e).1 with e | e
    · exact hk'.2.2.2.1 e
    · omega
  · rcases e with e | e | e | e | e
    · exact hn (Or.inl e)
    · exact hn (Or.inr (Or.inl e))
    · exact hn (Or.inr (Or.inr (Or.inl e)))
    · rcases (ho k e).1 with e | e
      · exact hn (Or.inr (Or.inr (Or.inr (Or.inl e))))
      · omega
    · exact hn (Or.inr (Or.inr (Or.inr (Or.inr e))))
  · exact hw.block k hk (fun e => hn (Or.inr (Or.inr (Or.inr (Or.inl (hX k e))))))
  · exact hw.block k (h.scra k hk).2.2.2.2 (fun e => (h.scra k hk).2.2.2.1 (hX k e))
/-- A slice has grown, and is stored. -/
theorem put9 {a b : Nat} {nn : Int} {eb : Option Nat} {q : Nat} {σ : St R9} {rs : List Value} {L : Lay} {v va u : World} {sv : Vr → Value} {i : Vr} {g o g' cap : Nat} {xs : List Int} {x : Int} {r' : R9}
    (I : Inv (S9 a b nn eb) q σ rs L v) (W : Vars L.own v (V9 eb σ.r L.gh) sv) (hg : L.gh.length = σ.r.own.length) (hV : V9 eb σ.r L.gh i = some (g, o, xs)) (hr' : ∀ j, V9 eb r' L.gh j = if j = i then some (g, o, xs ++ [x]) else V9 eb σ.r L.gh j) (hlen : r'.own.length = σ.r.own.length)
    (hm : Made v va) (hrow : u.ownsRow 0 3 1 (.slice (some ⟨g', 0, none⟩) (xs.length + 1) cap) (xs.length + 1) (xs.map (.int .i64) ++ [.int .i64 x])) (hgr : va.grownBy u (sv i).ownBlock) (hat : (sv i).ownBlock = some g' ∨ v.heap.size ≤ g') (hlt : g' < u.heap.size) :
    ∃ own2, Inv (S9 a b nn eb) q { σ with r := r' } rs { L with own := own2 } (u.setCell ⟨g, o, none⟩ (.slice (some ⟨g', 0, none⟩) (xs.length + 1) cap)) ∧ Ext (S9 a b nn eb) v L (u.setCell ⟨g, o, none⟩ (.slice (some ⟨g', 0, none⟩) (xs.length + 1) cap)) { L with own := own2 } ∧ Keeps v L (u.setCell ⟨g, o, none⟩ (.slice (some ⟨g', 0, none⟩) (xs.length + 1) cap)) { L with own := own2 } := by
  obtain ⟨R, t, hb1, hb2, hb3⟩ := W.blk i g o xs hV
  have hne := W.ne hV hV
  have hlg := lt_of_at hb1
  have hw1 : Wrote (fun k => k = g ∨ (sv i).ownBlock = some k) v u := (Wrote.of_made hm).trans ((Wrote.of_grown hgr).mono fun k _ e => Or.inr e)
  have hw2 := hw1.trans ((Wrote.set g o u (.slice (some ⟨g', 0, none⟩) (xs.length + 1) cap)).mono fun k _ e => Or.inl e)
  have hgb : ∀ R t, v.heap[g]? = some (.cells R t (0, 0)) → u.heap[g]? = some (.cells R t (0, 0)) := fun R t h => by
    rw [hgr.block _ (Nat.lt_of_lt_of_le hlg hm.size) hne.symm]
    exact (hm.block _ hlg).trans h
  have hng : g' ≠ g := fun e => by
    subst e
    rcases hat with e | e
    · exact hne e
    · omega
  have hsz : (u.setCell ⟨g, o, none⟩ (.slice (some ⟨g', 0, none⟩) (xs.length + 1) cap)).heap.size = u.heap.size := by simp [World.setCell]
  have hvu : v.heap.size ≤ u.heap.size := hw1.size
  have P := W.put (x := x) (s' := .slice (some ⟨g', 0, none⟩) (xs.length + 1) cap) hV (fun k hk => (I.owna k hk).2.2) hw2 (fun R t h => by
    have h2 := hgb R t h
    rw [setCell_eq_setRow _ _ _ _ _ _ _ h2, heap_setRow_same _ _ _ _ _ _ h2]) (row_later hrow fun k hk => by
    obtain rfl : g' = k := by simpa [Value.ownBlock] using hk
    exact Cell.heap_setCell_other _ _ _ _ _ hng) (fun k hk => by
    obtain rfl : g' = k := by simpa [Value.ownBlock] using hk
    exact hat)
  refine ⟨_, Inv.rest (S := S9 a b nn eb) (r' := r') I hw2 (fun k hk => ?_) (fun k hk => ?_) (fun k hk => Or.inl hk) ⟨hg.trans hlen.symm, _, by
    have e : V9 eb r' L.gh = fun j => if j = i then some (g, o, xs ++ [x]) else V9 eb σ.r L.gh j := funext hr'
    show Vars _ _ (V9 eb r' L.gh) _
    rw [e]
    exact P⟩⟩
  · rcases hk with rfl | hk
    · exact W.mine i _ _ _ hV
    · exact W.rown i _ _ _ k hV hk
  · rcases hk with hk | hk
    · exact ⟨Or.inl hk, by rw [hsz]; exact Nat.lt_of_lt_of_le (I.owna k hk).2.2 hvu⟩
    · obtain rfl : g' = k := by simpa [Value.ownBlock] using hk
      refine ⟨?_, by rw [hsz]; exact hlt⟩
      rcases hat with e | e
      · exact Or.inl (W.rown i _ _ _ g' hV e)
      · exact Or.inr e
end Go.Proofs.Ytndpkonihcebeaa.Kod.Nine
