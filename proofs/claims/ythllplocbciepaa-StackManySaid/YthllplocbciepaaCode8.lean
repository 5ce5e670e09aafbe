/- Layer 8's laws: what is noted behind a Pop, walked. -/
import Derived.Test.YthllplocbciepaaWrk8b
import Derived.Deep.DeepCutAuto
import Derived.Deep.RegionHeld3
import Derived.Deep.AppendLies
namespace Go.Proofs.Ythllplocbciepaa.Kod.Eight
open Go.RowKit Go.Proofs.Ythllplocbciepaa Go.Proofs.Ythllplocbciepaa.Cell Go.Proofs.Ythllplocbciepaa.Wd
set_option linter.unusedVariables false
set_option linter.unusedSimpArgs false
variable {a b : Nat} {gb : Nat → Nat} {fl : FuncId}

/-- What code of acts gives. -/
def Code8 (a b : Nat) (gb : Nat → Nat) (fl : FuncId) (l : List Bool) : Prop := ∀ (m j wb n c q : Nat) (A : Option Addr) (w : World) (L : Lay) (σ : St (List W8)) (rs : List Value) (y : K8 × St (List W8)), Inv (S8 a b gb) q σ rs L w → L.gh[j]? = some wb → Hid (n = l.length) → n ≤ c → c ≤ 9223372036854775807 → Lies (S8 a b gb) w L A (l.map .bool) → enter j l σ = some y →
  Calls Try.prog 51 #[stk (S8 a b gb) 0 fl, .slice A n c, .pointer (some ⟨wb, 0, none⟩)] w (Gives (S8 a b gb) m q y rs L w)
theorem gh_later {l l' : List Nat} (h : l <+: l') {j x : Nat} (hj : l[j]? = some x) : l'[j]? = some x := by
  obtain ⟨t, rfl⟩ := h
  rw [List.getElem?_append_left (List.getElem?_eq_some_iff.1 hj).1]
  exact hj
theorem own_same {own : Nat → Prop} {v : Value} (h : ∀ k, v.ownBlock = some k → own k) : (fun k => own k ∨ v.ownBlock = some k) = own := funext fun k => propext ⟨fun e => e.elim id (h k), Or.inl⟩
theorem popped_some {j : Nat} {l : List Bool} {i : Int} {ok : Bool} {σ : St (List W8)} {y : K8 × St (List W8)} (h : popped j l i ok σ = some y) : ∃ x, σ.r[j]? = some x ∧ room x ∧ enter j l (setw σ j (told x i ok)) = some y := by
  unfold popped at h
  split at h
  · simp at h
  · rename_i x hx
    split at h
    · exact ⟨x, hx, ‹_›, h⟩
    · simp at h
/-- A worker's flags are written. -/
theorem updf {n : Nat} {σ : St (List W8)} {rs : List Value} {L : Lay} {w w' : World} {hv sv : Nat → Value} {gb : Nat → Nat} {j wb : Nat} {x x' : W8} (h : Inv (S8 a b gb) n σ rs L w) (hJ : W8s σ.r L.own L.gh w hv sv gb) (hx : σ.r[j]? = some x) (hg : L.gh[j]? = some wb)
    (hw : Wrote (fun k => k = wb) w w') (hc : w'.heap[wb]? = some (.cells #[hv j, gotv x' (gb j), .bool x'.busy, .bool x'.bare, .bool x'.wrong] 88 (0, 0))) (hh : x'.hands = x.hands) (hgot : x'.got = x.got) :
    Inv (S8 a b gb) n (setw σ j x') rs L w' ∧ Ext (S8 a b gb) w L w' L ∧ Keeps w L w' L ∧ W8s (setw σ j x').r L.own L.gh w' hv sv gb := by
  have hk := hJ.wk j x wb hx hg
  have hr : w'.ownsRow 0 3 1 (hv j) x'.hands.length (x'.hands.map (.int .i64)) := by
    rw [hh]
    exact row_later hk.row fun k hkk => by
      obtain ⟨cur, hcur⟩ := row_block hk.row hkk
      exact hw.block k (lt_of_at hcur) (kind_ne hcur hk.cells (by decide))
  have hu := upd h hJ hx hg (hw.mono fun k _ e => Or.inl e) hc hr (fun k hkk => ⟨Or.inl hkk, by
    have := hJ.hlt (List.getElem?_eq_some_iff.1 hx).1 hkk
    have := hw.size
    omega⟩) hgot (by rw [hh]; exact hk.rng)
  rw [own_same hk.rown] at hu
  have e : (fun i => if i = j then hv j else hv i) = hv := funext fun i => by
    by_cases h : i = j
    · subst h; simp
    · simp [h]
  rw [e] at hu
  exact hu

/-- Where things stand within a worker's step. -/
def Now (a b : Nat) (gb : Nat → Nat) (q j : Nat) (σ : St (List W8)) (rs : List Value) (L : Lay) (w : World) (x : W8) (v : World) : Prop := ∃ own2 hv sv, Inv (S8 a b gb) q (setw σ j x) rs { L with own := own2 } v ∧ Ext (S8 a b gb) w L v { L with own := own2 } ∧ Keeps w L v { L with own := own2 } ∧ W8s (setw σ j x).r own2 L.gh v hv sv gb
theorem setw_setw (σ : St (List W8)) (j : Nat) (x y : W8) : setw (setw σ j x) j y = setw σ j y := by simp [setw, List.set_set]
theorem setw_at {σ : St (List W8)} {j : Nat} (h : j < σ.r.length) (x : W8) : (setw σ j x).r[j]? = some x := by simp [setw, List.getElem?_set_self h]
theorem setw_self {σ : St (List W8)} {j : Nat} {x : W8} (h : σ.r[j]? = some x) : setw σ j x = σ := by
  have : σ.r.set j x = σ.r := by
    apply List.ext_getElem?
    intro k
    by_cases hk : j = k
    · subst hk
      rw [List.getElem?_set_self (List.getElem?_eq_some_iff.1 h).1, h]
    · rw [List.getElem?_set_ne hk]
  simp [setw, this]
theorem Now.start {q j : Nat} {σ : St (List W8)} {rs : List Value} {L : Lay} {w : World} {x : W8} (h : Inv (S8 a b gb) q σ rs L w) (hx : σ.r[j]? = some x) : Now a b gb q j σ rs L w x w := by
  obtain ⟨hv, sv, hW⟩ : J8 gb σ.r L.own L.gh w := h.rest
  refine ⟨L.own, hv, sv, ?_, Ext.of_made (Made.refl w), h.keeps_made (Made.refl w), ?_⟩
  · rw [setw_self hx]; exact h
  · rw [setw_self hx]; exact hW
theorem Now.made {q j : Nat} {σ : St (List W8)} {rs : List Value} {L : Lay} {w v u : World} {x : W8} (h : Now a b gb q j σ rs L w x v) (hm : Made v u) : Now a b gb q j σ rs L w x u := by
  obtain ⟨own2, hv, sv, I, X, K, W⟩ := h
  exact ⟨own2, hv, sv, I.later hm, X.trans (Ext.of_made hm), K.trans (I.keeps_made hm), ⟨W.len, W.once, fun i y bi h1 h2 => (W.wk i y bi h1 h2).later (fun k hk => hm.block k (I.owna k hk).2.2), W.hh, W.hs, W.ss, W.sn, W.gg⟩⟩
theorem Now.cells {q j wb : Nat} {σ : St (List W8)} {rs : List Value} {L : Lay} {w v : World} {x : W8} (h : Now a b gb q j σ rs L w x v) (hj : j < σ.r.length) (hg : L.gh[j]? = some wb) : ∃ c0 c1, v.heap[wb]? = some (.cells #[c0, c1, .bool x.busy, .bool x.bare, .bool x.wrong] 88 (0, 0)) := by
  obtain ⟨own2, hv, sv, I, X, K, W⟩ := h
  exact ⟨_, _, (W.wk j x wb (setw_at hj x) hg).cells⟩
/-- A flag is written. -/
theorem Now.flag {q j wb o : Nat} {σ : St (List W8)} {rs : List Value} {L : Lay} {w v : World} {x x' : W8} {c : Bool} (h : Now a b gb q j σ rs L w x v) (hj : j < σ.r.length) (hg : L.gh[j]? = some wb) (hh : x'.hands = x.hands) (hgot : x'.got = x.got)
    (hc : ∀ c0 c1 : Value, (#[c0, c1, .bool x.busy, .bool x.bare, .bool x.wrong] : Array Value).setIfInBounds o (.bool c) = #[c0, c1, .bool x'.busy, .bool x'.bare, .bool x'.wrong]) : Now a b gb q j σ rs L w x' (v.setCell ⟨wb, o, none⟩ (.bool c)) := by
  obtain ⟨own2, hv, sv, I, X, K, W⟩ := h
  have hk := W.wk j x wb (setw_at hj x) hg
  have hu := updf (L := { L with own := own2 }) (x' := x') I W (setw_at hj x) hg (Wrote.set wb o v (.bool c)) (by
    rw [setCell_eq_setRow _ _ _ _ _ _ _ hk.cells, heap_setRow_same _ _ _ _ _ _ hk.cells]
    rw [hc]
    simp [gotv, hgot]) hh hgot
  rw [setw_setw] at hu
  exact ⟨own2, hv, sv, hu.1, X.trans hu.2.1, K.trans hu.2.2.1, hu.2.2.2⟩
/-- What was told is appended and stored. -/
theorem Now.tell {q j wb g' cap : Nat} {σ : St (List W8)} {rs : List Value} {L : Lay} {w v u : World} {x : W8} {own2 : Nat → Prop} {hv sv : Nat → Value} {gb : Nat → Nat} {g : List Int} {i : Int} {o : Obj} (I : Inv (S8 a b gb) q (setw σ j x) rs { L with own := own2 } v) (X : Ext (S8 a b gb) w L v { L with own := own2 }) (K : Keeps w L v { L with own := own2 }) (W : W8s (setw σ j x).r own2 L.gh v hv sv gb) (hj : j < σ.r.length) (hg : L.gh[j]? = some wb) (hgx : x.got = some g)
    (hrow : u.ownsRow 0 3 1 (.slice (some ⟨g', 0, none⟩) (g.length + 1) cap) (g.length + 1) (g.map (.int .i64) ++ [.int .i64 i])) (hgr : ((v.alloc o).drew).grownBy u (sv j).ownBlock) (hat : (sv j).ownBlock = some g' ∨ g' = v.heap.size + 1) (hlt : g' < u.heap.size) :
    Now a b gb q j σ rs L w { x with got := some (g ++ [i]) } (u.setCell ⟨gb j, 0, none⟩ (.slice (some ⟨g', 0, none⟩) (g.length + 1) cap)) := by
  have hk := W.wk j x wb (setw_at hj x) hg
  obtain ⟨k1, k2, k3, k4⟩ := hk.got g hgx
  have hne : (sv j).ownBlock ≠ some (gb j) := fun e => by
    obtain ⟨cur, hc⟩ := row_block k3 e
    exact kind_ne hc k2 (by decide) rfl
  have hlg := lt_of_at k2
  have hma : Made v ((v.alloc o).drew) := Made.trans ((Made.refl v).alloc (Nat.le_refl _) _) (Made.drewN _ 1)
  have hw1 : Wrote (fun k => k = gb j ∨ (sv j).ownBlock = some k) v u := (Wrote.of_made hma).trans ((Wrote.of_grown hgr).mono fun k _ e => Or.inr e)
  have hcu : u.heap[gb j]? = v.heap[gb j]? := by
    rw [hgr.block _ (Nat.lt_of_lt_of_le hlg hma.size) hne.symm]
    exact hma.block _ hlg
  have hcu2 := hcu.trans k2
  have hng : g' ≠ gb j := fun e => by
    subst e
    rcases hat with e | e
    · exact hne e
    · omega
  have hu := updg (L := { L with own := own2 }) (g' := g ++ [i]) (sv' := .slice (some ⟨g', 0, none⟩) (g.length + 1) cap) I W (setw_at hj x) hg hgx (hw1.trans ((Wrote.set (gb j) 0 u (.slice (some ⟨g', 0, none⟩) (g.length + 1) cap)).mono fun k _ e => Or.inl e)) (by
    rw [setCell_eq_setRow _ _ _ _ _ _ _ hcu2, heap_setRow_same _ _ _ _ _ _ hcu2]
    rfl) (by
    have e1 : (g ++ [i]).length = g.length + 1 := by simp
    have e2 : (g ++ [i]).map (Value.int .i64) = g.map (.int .i64) ++ [.int .i64 i] := by simp
    rw [e1, e2]
    refine row_later hrow fun k hk => ?_
    obtain rfl : g' = k := by simpa [Value.ownBlock] using hk
    exact Cell.heap_setCell_other _ _ _ _ _ hng) (fun k hk => by
    obtain rfl : g' = k := by simpa [Value.ownBlock] using hk
    refine ⟨?_, by simpa [World.setCell] using hlt⟩
    rcases hat with e | e
    · exact Or.inl e
    · exact Or.inr (by omega))
  rw [setw_setw] at hu
  exact ⟨_, hv, _, hu.1, X.trans hu.2.1, K.trans hu.2.2.1, hu.2.2.2⟩
/-- What is in the hands is appended and stored. -/
theorem Now.take {q j wb g' cap : Nat} {σ : St (List W8)} {rs : List Value} {L : Lay} {w v u : World} {x : W8} {own2 : Nat → Prop} {hv sv : Nat → Value} {gb : Nat → Nat} {i : Int} {o : Obj} (I : Inv (S8 a b gb) q (setw σ j x) rs { L with own := own2 } v) (X : Ext (S8 a b gb) w L v { L with own := own2 }) (K : Keeps w L v { L with own := own2 }) (W : W8s (setw σ j x).r own2 L.gh v hv sv gb) (hj : j < σ.r.length) (hg : L.gh[j]? = some wb) (hi : 0 ≤ i ∧ i < 4294967295)
    (hrow : u.ownsRow 0 3 1 (.slice (some ⟨g', 0, none⟩) (x.hands.length + 1) cap) (x.hands.length + 1) (x.hands.map (.int .i64) ++ [.int .i64 i])) (hgr : ((v.alloc o).drew).grownBy u (hv j).ownBlock) (hat : (hv j).ownBlock = some g' ∨ g' = v.heap.size + 1) (hlt : g' < u.heap.size) :
    Now a b gb q j σ rs L w { x with hands := x.hands ++ [i] } (u.setCell ⟨wb, 0, none⟩ (.slice (some ⟨g', 0, none⟩) (x.hands.length + 1) cap)) := by
  have hk := W.wk j x wb (setw_at hj x) hg
  have k2 := hk.cells
  have hne : (hv j).ownBlock ≠ some wb := fun e => by
    obtain ⟨cur, hc⟩ := row_block hk.row e
    exact kind_ne hc k2 (by decide) rfl
  have hlg := lt_of_at k2
  have hma : Made v ((v.alloc o).drew) := Made.trans ((Made.refl v).alloc (Nat.le_refl _) _) (Made.drewN _ 1)
  have hw1 : Wrote (fun k => k = wb ∨ (hv j).ownBlock = some k) v u := (Wrote.of_made hma).trans ((Wrote.of_grown hgr).mono fun k _ e => Or.inr e)
  have hcu : u.heap[wb]? = v.heap[wb]? := by
    rw [hgr.block _ (Nat.lt_of_lt_of_le hlg hma.size) hne.symm]
    exact hma.block _ hlg
  have hcu2 := hcu.trans k2
  have hng : g' ≠ wb := fun e => by
    subst e
    rcases hat with e | e
    · exact hne e
    · omega
  have hu := upd (L := { L with own := own2 }) (x' := { x with hands := x.hands ++ [i] }) (hv' := .slice (some ⟨g', 0, none⟩) (x.hands.length + 1) cap) I W (setw_at hj x) hg (hw1.trans ((Wrote.set wb 0 u (.slice (some ⟨g', 0, none⟩) (x.hands.length + 1) cap)).mono fun k _ e => Or.inl e)) (by
    rw [setCell_eq_setRow _ _ _ _ _ _ _ hcu2, heap_setRow_same _ _ _ _ _ _ hcu2]
    rfl) (by
    have e1 : (x.hands ++ [i]).length = x.hands.length + 1 := by simp
    have e2 : (x.hands ++ [i]).map (Value.int .i64) = x.hands.map (.int .i64) ++ [.int .i64 i] := by simp
    simp only [e1, e2]
    refine row_later hrow fun k hk => ?_
    obtain rfl : g' = k := by simpa [Value.ownBlock] using hk
    exact Cell.heap_setCell_other _ _ _ _ _ hng) (fun k hk => by
    obtain rfl : g' = k := by simpa [Value.ownBlock] using hk
    refine ⟨?_, by simpa [World.setCell] using hlt⟩
    rcases hat with e | e
    · exact Or.inl e
    · exact Or.inr (by omega)) rfl (fun z hz => by
    rcases List.mem_append.1 hz with hz | hz
    · exact hk.rng z hz
    · obtain rfl : z = i := by simpa using hz
      exact hi)
  rw [setw_setw] at hu
  exact ⟨_, _, sv, hu.1, X.trans hu.2.1, K.trans hu.2.2.1, hu.2.2.2⟩
end Go.Proofs.Ythllplocbciepaa.Kod.Eight
