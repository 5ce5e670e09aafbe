/- Package knelllaw10, walked: WheelDue. -/
import Derived.Test.YtndpkonihcebeaaPkp
import Derived.Test.YtndpkonihcebeaaPut
import Derived.Test.YtndpkonihcebeaaOpenP
namespace Go.Proofs.Ytndpkonihcebeaa.Whl
open Go.RowKit Go.Proofs.Ytndpkonihcebeaa Go.Proofs.Ytndpkonihcebeaa.Cell Go.Proofs.Ytndpkonihcebeaa.Seq Go.Proofs.Ytndpkonihcebeaa.Num Go.Proofs.Ytndpkonihcebeaa.SetN Go.Proofs.Ytndpkonihcebeaa.Dig Go.Proofs.Ytndpkonihcebeaa.Bits
set_option linter.unusedVariables false
set_option linter.unusedSimpArgs false
variable {a b bl bs L S B N G : Nat}

/-- How many of some times aren't over. -/
def alive (ds : List Int) : Nat := (ds.filter fun d => decide (0 ≤ d)).length
theorem alive_snoc (ds : List Int) (d : Int) (h : 0 ≤ d) : alive (ds ++ [d]) = alive ds + 1 := by
  unfold alive
  rw [List.filter_append, List.length_append]
  simp [h]
theorem alive_set : ∀ (ds : List Int) (t : Nat) (d : Int), ds[t]? = some d → 0 ≤ d → alive (ds.set t (-1)) + 1 = alive ds
  | [], t, d, h, _ => by simp at h
  | x :: r, 0, d, h, h0 => by
    simp only [List.getElem?_cons_zero, Option.some.injEq] at h
    subst h
    unfold alive
    rw [List.set_cons_zero, List.filter_cons, List.filter_cons, if_neg (by simp), if_pos (by simp [h0])]
    simp
  | x :: r, t + 1, d, h, h0 => by
    simp only [List.getElem?_cons_succ] at h
    have ih := alive_set r t d h h0
    unfold alive at ih ⊢
    rw [List.set_cons_succ, List.filter_cons, List.filter_cons]
    split
    · simp only [List.length_cons]; omega
    · exact ih
theorem alive_take (ds : List Int) (k : Nat) (d : Int) (h : ds[k]? = some d) : alive (ds.take (k + 1)) = alive (ds.take k) + (if 0 ≤ d then 1 else 0) := by
  unfold alive
  rw [List.take_add_one, h, List.filter_append, List.length_append]
  congr 1
  simp only [Option.toList_some, List.filter_cons, List.filter_nil]
  by_cases h0 : 0 ≤ d
  · simp [h0]
  · simp [h0]
/-- In the midst of a loop over what was passed: g is what is left of it; at what Peek told. -/
structure Mid (L S B : Nat) (now at' : Int) (g : List Nat) (ds : List Int) (chs : Nat → Nat → List Nat) : Prop where
  at_ : ∀ lv sl t, Val L S lv sl → t ∈ chs lv sl → ∃ d, ds[t]? = some d ∧ 0 ≤ d ∧ Placed now d L B S lv sl
  all : ∀ (t : Nat) d, ds[t]? = some d → 0 ≤ d → t ∈ g ∨ ∃ lv sl, Val L S lv sl ∧ t ∈ chs lv sl
  gone : ∀ t ∈ g, (∃ d, ds[t]? = some d ∧ 0 ≤ d ∧ at' ≤ d) ∧ ∀ lv sl, Val L S lv sl → t ∉ chs lv sl
  nd : g.Nodup
  len : (listOf L S chs).length + g.length = alive ds
  bd : ∀ d ∈ ds, -1 ≤ d ∧ d ≤ 4000000000
theorem Mid.empty (now at' : Int) : Mid L S B now at' [] [] (fun _ _ => []) :=
  ⟨fun _ _ _ _ m => by simp at m, fun _ _ h => by simp at h, fun _ h => by simp at h, List.nodup_nil, by rw [listOf_empty]; rfl, fun _ h => by simp at h⟩
theorem Mid.fresh {now at' : Int} {ds : List Int} {g : List Nat} {chs : Nat → Nat → List Nat} (h : Mid L S B now at' g ds chs) : ∀ lv sl, Val L S lv sl → ds.length ∉ chs lv sl := fun lv sl hv m => by
  obtain ⟨d, e, _⟩ := h.at_ lv sl _ hv m
  have := (List.getElem?_eq_some_iff.1 e).1
  omega
theorem Mid.any {now at' at2 : Int} {ds : List Int} {chs : Nat → Nat → List Nat} (h : Mid L S B now at' [] ds chs) : Mid L S B now at2 [] ds chs :=
  ⟨h.at_, h.all, fun _ h => by simp at h, h.nd, h.len, h.bd⟩
/-- A ticket is put. -/
theorem Mid.put {now at' d : Int} {ds : List Int} {chs : Nat → Nat → List Nat} (h : Mid L S B now at' [] ds chs) (h0 : 0 ≤ d) (h1 : d ≤ 4000000000) {lv sl : Nat} (hp : Placed now d L B S lv sl) (hv : Val L S lv sl) : Mid L S B now at' [] (ds ++ [d]) (insCh ds.length lv sl chs) := by
  have old : ∀ {t : Nat} {d' : Int}, ds[t]? = some d' → (ds ++ [d])[t]? = some d' := fun e => by rw [List.getElem?_append_left (List.getElem?_eq_some_iff.1 e).1]; exact e
  have hat : (ds ++ [d])[ds.length]? = some d := by rw [List.getElem?_append_right (Nat.le_refl _)]; simp
  refine ⟨fun lv' sl' t hv' m => ?_, fun t d' e hd => ?_, fun _ h => by simp at h, List.nodup_nil, ?_, fun x hx => ?_⟩
  · have go : t ∈ chs lv' sl' → ∃ d', (ds ++ [d])[t]? = some d' ∧ 0 ≤ d' ∧ Placed now d' L B S lv' sl' := fun m => by
      obtain ⟨d', e, x0, hp'⟩ := h.at_ lv' sl' t hv' m
      exact ⟨d', old e, x0, hp'⟩
    unfold insCh at m
    split at m
    · rename_i he
      obtain ⟨rfl, rfl⟩ := he
      rcases List.mem_cons.1 m with rfl | m
      · exact ⟨d, hat, h0, hp⟩
      · exact go m
    · exact go m
  · right
    by_cases ht : t < ds.length
    · rw [List.getElem?_append_left ht] at e
      rcases h.all t d' e hd with hg | ⟨lv', sl', hv', m⟩
      · simp at hg
      · refine ⟨lv', sl', hv', ?_⟩
        unfold insCh
        split
        · exact List.mem_cons_of_mem _ m
        · exact m
    · have : t = ds.length := by
        have := (List.getElem?_eq_some_iff.1 e).1
        rw [List.length_append] at this
        simp only [List.length_singleton] at this
        omega
      subst this
      refine ⟨lv, sl, hv, ?_⟩
      unfold insCh
      rw [if_pos ⟨rfl, rfl⟩]
      exact List.mem_cons_self
  · rw [listOf_ins hv, alive_snoc _ _ h0]
    have := h.len
    simp only [List.length_nil] at this ⊢
    omega
  · rw [List.mem_append, List.mem_singleton] at hx
    rcases hx with hx | rfl
    · exact h.bd x hx
    · omega
/-- Time goes by: what is passed is in nobody's list. -/
theorem Mid.pass {now to' at' : Int} {ds xs : List Int} {chs : Nat → Nat → List Nat} (h : Mid L S B now at' [] ds chs) (hw : Wst L S N xs chs) (hL : L ≤ 64) (h0 : 0 ≤ now) (h1 : now ≤ to') (h2 : to' < 4294967296)
    (hat : ∀ lv sl t d, Val L S lv sl → t ∈ chs lv sl → ds[t]? = some d → at' ≤ d) : Mid L S B to' at' (passG (crOf now to' B) S L 0 chs) ds (passCh (crOf now to' B) L 0 chs) := by
  classical
  have e1 := tm_of h0 (by omega : now < 4294967296)
  have e2 := tm_of (by omega : 0 ≤ to') h2
  refine ⟨fun lv sl t hv m => ?_, fun t d e hd => ?_, fun t ht => ?_, passG_nodup hw, ?_, h.bd⟩
  · rw [passCh_eq L 0 chs (by omega) lv sl hv] at m
    by_cases hp : ps (crOf now to' B) L 0 lv sl
    · rw [if_pos ⟨Nat.zero_le _, hp⟩] at m; simp at m
    · rw [if_neg (fun c => hp c.2)] at m
      obtain ⟨d, e, x0, hpl⟩ := h.at_ lv sl t hv m
      exact ⟨d, e, x0, (hpl.stay hL (by omega) hp).2⟩
  · rcases h.all t d e hd with hg | ⟨lv, sl, hv, m⟩
    · simp at hg
    · by_cases hp : ps (crOf now to' B) L 0 lv sl
      · exact Or.inl ((mem_passG hw.s1).2 ⟨lv, sl, hv, hp, m⟩)
      · refine Or.inr ⟨lv, sl, hv, ?_⟩
        rw [passCh_eq L 0 chs (by omega) lv sl hv, if_neg (fun c => hp c.2)]
        exact m
  · obtain ⟨lv, sl, hv, hp, m⟩ := (mem_passG hw.s1).1 ht
    refine ⟨?_, fun lv' sl' hv' m' => ?_⟩
    · obtain ⟨d, e, x0, hpl⟩ := h.at_ lv sl t hv m
      exact ⟨d, e, x0, hat lv sl t d hv m e⟩
    · rw [passCh_eq L 0 chs (by omega) lv' sl' hv'] at m'
      by_cases hp' : ps (crOf now to' B) L 0 lv' sl'
      · rw [if_pos ⟨Nat.zero_le _, hp'⟩] at m'; simp at m'
      · rw [if_neg (fun c => hp' c.2)] at m'
        obtain ⟨rfl, rfl⟩ := hw.nd lv sl lv' sl' t hv hv' m m'
        exact hp' hp
  · have := pass_len (L := L) (S := S) (cr := crOf now to' B) (chs := chs) hw.s1
    have h3 := h.len
    simp only [List.length_nil] at h3
    omega
/-- What was passed too early is put anew. -/
theorem Mid.again {now at' d : Int} {t : Nat} {g : List Nat} {ds : List Int} {chs : Nat → Nat → List Nat} (h : Mid L S B now at' (t :: g) ds chs) (e : ds[t]? = some d) (h0 : 0 ≤ d) {lv sl : Nat} (hp : Placed now d L B S lv sl) (hv : Val L S lv sl) : Mid L S B now at' g ds (insCh t lv sl chs) := by
  obtain ⟨hnt, hnd⟩ := List.nodup_cons.1 h.nd
  refine ⟨fun lv' sl' u hv' m => ?_, fun u d' e' hd => ?_, fun u hu => ⟨(h.gone u (List.mem_cons_of_mem _ hu)).1, fun lv' sl' hv' m => ?_⟩, hnd, ?_, h.bd⟩
  · unfold insCh at m
    split at m
    · rename_i he
      obtain ⟨rfl, rfl⟩ := he
      rcases List.mem_cons.1 m with rfl | m
      · exact ⟨d, e, h0, hp⟩
      · exact h.at_ _ _ u hv' m
    · exact h.at_ _ _ u hv' m
  · rcases h.all u d' e' hd with hg | ⟨lv', sl', hv', m⟩
    · rcases List.mem_cons.1 hg with rfl | hg
      · refine Or.inr ⟨lv, sl, hv, ?_⟩
        unfold insCh
        rw [if_pos ⟨rfl, rfl⟩]
        exact List.mem_cons_self
      · exact Or.inl hg
    · refine Or.inr ⟨lv', sl', hv', ?_⟩
      unfold insCh
      split
      · exact List.mem_cons_of_mem _ m
      · exact m
  · have hno := (h.gone u (List.mem_cons_of_mem _ hu)).2 lv' sl' hv'
    unfold insCh at m
    split at m
    · rcases List.mem_cons.1 m with rfl | m
      · exact hnt hu
      · exact hno m
    · exact hno m
  · rw [listOf_ins hv]
    have := h.len
    rw [List.length_cons] at this
    omega
/-- What was due is over. -/
theorem Mid.over {now at' d : Int} {t : Nat} {g : List Nat} {ds : List Int} {chs : Nat → Nat → List Nat} (h : Mid L S B now at' (t :: g) ds chs) (e : ds[t]? = some d) (h0 : 0 ≤ d) : Mid L S B now at' g (ds.set t (-1)) chs := by
  obtain ⟨hnt, hnd⟩ := List.nodup_cons.1 h.nd
  have hno := (h.gone t List.mem_cons_self).2
  refine ⟨fun lv' sl' u hv' m => ?_, fun u d' e' hd => ?_, fun u hu => ?_, hnd, ?_, fun x hx => ?_⟩
  · have hne : t ≠ u := fun c => hno lv' sl' hv' (c ▸ m)
    rw [List.getElem?_set_ne hne]
    exact h.at_ lv' sl' u hv' m
  · by_cases hne : t = u
    · subst hne
      rw [List.getElem?_set_self (List.getElem?_eq_some_iff.1 e).1] at e'
      simp only [Option.some.injEq] at e'
      omega
    · rw [List.getElem?_set_ne hne] at e'
      rcases h.all u d' e' hd with hg | hx
      · rcases List.mem_cons.1 hg with c | hg
        · exact absurd c.symm hne
        · exact Or.inl hg
      · exact Or.inr hx
  · have hne : t ≠ u := fun c => hnt (c ▸ hu)
    rw [List.getElem?_set_ne hne]
    exact h.gone u (List.mem_cons_of_mem _ hu)
  · have h1 := alive_set ds t d e h0
    have h2 := h.len
    rw [List.length_cons] at h2
    omega
  · rcases List.mem_or_eq_of_mem_set hx with hx | rfl
    · exact h.bd x hx
    · omega
/-- What isn't over is due later. -/
theorem Mid.later {now at' : Int} {ds : List Int} {chs : Nat → Nat → List Nat} (h : Mid L S B now at' [] ds chs) (h0 : 0 ≤ now) (h1 : now < 4294967296) : ∀ d ∈ ds, 0 ≤ d → now < d := fun d hd hd0 => by
  obtain ⟨t, ht⟩ := List.getElem?_of_mem hd
  rcases h.all t d ht hd0 with hg | ⟨lv, sl, hv, m⟩
  · simp at hg
  · obtain ⟨d', e, x0, hp⟩ := h.at_ lv sl t hv m
    rw [ht] at e
    simp only [Option.some.injEq] at e
    subst e
    have := hp.stand.1
    have e1 := tm_of h0 h1
    have e2 := tm_of x0 (by have := (h.bd d hd).2; omega)
    omega
/-- Nothing is due ahead of what Peek tells. -/
theorem Mid.peek {now at' : Int} {ds xs : List Int} {chs : Nat → Nat → List Nat} (h : Mid L S B now at' [] ds chs) (hw : Wst L S N xs chs) (hL : L ≤ 63) (hB1 : 1 ≤ B) (hB6 : B ≤ 6) (hS : S = 2 ^ B) : ∀ lv sl t d, Val L S lv sl → t ∈ chs lv sl → ds[t]? = some d → (peekR now L B xs L 0).1 ≤ d := fun lv sl t d hv m e => by
  obtain ⟨d', e', x0, hp⟩ := h.at_ lv sl t hv m
  rw [e] at e'
  simp only [Option.some.injEq] at e'
  subst e'
  have h1 := peek_le hw hL hB1 hB6 hS hv m hp (fun a b hv' hne => by
    obtain ⟨u, hu⟩ := List.exists_mem_of_ne_nil _ hne
    obtain ⟨d2, _, _, hp2⟩ := h.at_ a b u hv' hu
    exact ⟨d2, hp2⟩) L 0 (by omega) (by omega)
  have e2 := tm_of x0 (by have := (h.bd d (List.mem_of_getElem? e)).2; omega)
  omega
/-- A slice of the law's own, of whole numbers. -/
def OwnI (lo : Nat) (w : World) (v : Value) (ds : List Int) : Prop := w.ownsRow lo 3 1 v ds.length (ds.map (Value.int .i64))
theorem OwnI.shape {lo : Nat} {w : World} {v : Value} {ds : List Int} (h : OwnI lo w v ds) : ∃ A cap, v = .slice A ds.length cap ∧ ds.length ≤ cap ∧ cap ≤ maxLen ∧ ∀ g, A = some g → lo ≤ g.block ∧ g.block < w.heap.size := by
  rcases h.2 with ⟨rfl, h0⟩ | ⟨g, cap, cur, rfl, h1, h2, h3, h4, _⟩
  · exact ⟨none, 0, by rw [h0], by omega, by unfold maxLen; omega, fun g e => by cases e⟩
  · exact ⟨_, cap, rfl, h3, h4, fun g' e => by cases e; exact ⟨h1, (Array.getElem?_eq_some_iff.1 h2).1⟩⟩
theorem OwnI.keep {lo : Nat} {w w' : World} {v : Value} {ds : List Int} (h : OwnI lo w v ds) (hk : ∀ g, lo ≤ g → g < w.heap.size → w'.heap[g]? = w.heap[g]?) : OwnI lo w' v ds := by
  refine ⟨h.1, ?_⟩
  rcases h.2 with h2 | ⟨g, cap, cur, e, h1, h2, h3⟩
  · exact Or.inl h2
  · exact Or.inr ⟨g, cap, cur, e, h1, (hk g h1 (Array.getElem?_eq_some_iff.1 h2).1).trans h2, h3⟩
theorem OwnI.past {lo : Nat} {w w' : World} {v : Value} {ds : List Int} (h : OwnI lo w v ds) (p : Past a b w w') (ha : a < lo) (hb : b < lo) : OwnI lo w' v ds := h.keep fun g h1 h2 => p.block g h2 (by omega) (by omega)
theorem OwnI.made {lo : Nat} {w w' : World} {v : Value} {ds : List Int} (h : OwnI lo w v ds) (p : Made w w') : OwnI lo w' v ds := h.keep fun g _ h2 => p.block g h2
theorem OwnI.nil (lo : Nat) (w : World) : OwnI lo w (.slice none 0 0) [] := ⟨rfl, Or.inl ⟨rfl, rfl⟩⟩
theorem OwnI.at_ {lo : Nat} {w : World} {A : Option Addr} {n cap : Nat} {ds : List Int} (h : OwnI lo w (.slice A n cap) ds) {t : Nat} {d : Int} (e : ds[t]? = some d) : ∃ g, A = some ⟨g, 0, none⟩ ∧ lo ≤ g ∧ g < w.heap.size ∧ w.cell? ⟨g, t, none⟩ = some (.int .i64 d) ∧ w.frozen? ⟨g, t, none⟩ = false ∧
    ∀ x, OwnI lo (w.setCell ⟨g, t, none⟩ (.int .i64 x)) (.slice A n cap) (ds.set t x) := by
  have ht := (List.getElem?_eq_some_iff.1 e).1
  rcases h.2 with ⟨_, h0⟩ | ⟨g, cap', cur, ev, h1, h2, h3, h4, h5, h6⟩
  · omega
  · simp only [Value.slice.injEq] at ev
    obtain ⟨rfl, _, rfl⟩ := ev
    rw [Nat.mul_one] at h5 h6
    have hc : cur[t]? = some (.int .i64 d) := by
      have h7 : (cur.toList.take ds.length)[t]? = some (.int .i64 d) := by rw [h6, List.getElem?_map, e]; rfl
      rw [List.getElem?_take_of_lt ht] at h7
      simpa using h7
    refine ⟨g, rfl, h1, (Array.getElem?_eq_some_iff.1 h2).1, by rw [cell_of_row _ _ _ _ _ _ h2]; exact hc, frozen_of_row _ _ _ _ _ h2, fun x => ?_⟩
    refine ⟨by simp, Or.inr ⟨g, cap, cur.setIfInBounds t (.int .i64 x), by simp only [List.length_set]; rw [‹n = ds.length›], h1, by rw [setCell_eq_setRow _ _ _ _ _ _ _ h2, heap_setRow_same _ _ _ _ _ _ h2], by rw [List.length_set]; exact h3, h4, by simp [h5], ?_⟩⟩
    rw [Nat.mul_one, List.length_set, Array.toList_setIfInBounds, List.take_set, h6, List.map_set]
theorem elem_intd : Elem Try.prog 23 3 (.int .i64 0) 8 := ⟨Try.underlying23, by kernel_rfl, rfl⟩
theorem alive_le (ds : List Int) : alive ds ≤ ds.length := List.length_filter_le _ _
theorem cell_past {w w' : World} (p : Past a b w w') {g t : Nat} {v : Value} (h : w.cell? ⟨g, t, none⟩ = some v) (hg : g ≠ a ∧ g ≠ b) : w'.cell? ⟨g, t, none⟩ = some v :=
  (World.cell?_of_block (a := ⟨g, t, none⟩) (p.block g (Go.block_lt_of_cell h) hg.1 hg.2)).trans h
theorem own_snoc {lo : Nat} {w : World} {v : Value} {ds : List Int} {d : Int} (h : w.ownsRow lo 3 1 v (ds.length + 1) (ds.map (Value.int .i64) ++ [.int .i64 d])) : OwnI lo w v (ds ++ [d]) := by
  unfold OwnI
  rw [List.length_append, List.map_append]
  exact h
theorem below_grown {lo n cap : Nat} {w w' : World} {A : Option Addr} {o : Obj} (h : (w.alloc o).grownBy w' (Value.slice A n cap).ownBlock) (hA : ∀ g, A = some g → lo ≤ g.block) (hl : lo ≤ w.heap.size) : Below lo w w' := by
  refine ⟨h.os, h.tape, h.output, ?_, fun k hk => ?_⟩
  · have := h.size
    simp only [World.size_alloc] at this
    omega
  · refine (h.block k (by simp only [World.size_alloc]; omega) ?_).trans (heap_alloc_old _ _ (by omega))
    cases A with
    | none => intro e; cases e
    | some g =>
      intro e
      have : k = g.block := Option.some.inj e
      have := hA g rfl
      omega
/-- What lies below stands as it was. -/
theorem Rest.low {lo : Nat} {w0 w w' : World} {c : Int} {xs : List Int} {chs : Nat → Nat → List Nat} (h : Rest a b bl bs L S B N G w0 w c xs chs) (p : Below lo w w') (hl : a < lo ∧ b < lo ∧ bl < lo ∧ bs < lo ∧ G < lo) (h0 : w0.heap.size ≤ lo) : Rest a b bl bs L S B N G w0 w' c xs chs :=
  ⟨⟨⟨(p.block _ hl.1).trans h.whe.ar.ha, (p.block _ hl.2.1).trans h.whe.ar.hb, h.whe.ar.ne, h.whe.ar.c0, h.whe.ar.c1⟩, ⟨(p.block _ hl.2.2.1).trans h.whe.env.l, (p.block _ hl.2.2.2.1).trans h.whe.env.s, h.whe.env.l1, h.whe.env.l5, h.whe.env.s1, h.whe.env.s2, h.whe.env.ap⟩, h.whe.wst, h.whe.sb, h.whe.b1, h.whe.b6, h.whe.n⟩,
   h.c0, Below.trans h.bel (Below.mono p h0), (p.block _ hl.2.2.2.2).trans h.row, h.ga, h.ab⟩
theorem Rest.lows {w0 w : World} {c : Int} {xs : List Int} {chs : Nat → Nat → List Nat} (h : Rest a b bl bs L S B N G w0 w c xs chs) : a < w.heap.size ∧ b < w.heap.size ∧ bl < w.heap.size ∧ bs < w.heap.size ∧ G < w.heap.size :=
  ⟨h.lt.1, h.lt.2.1, (Array.getElem?_eq_some_iff.1 h.whe.env.l).1, (Array.getElem?_eq_some_iff.1 h.whe.env.s).1, h.lt.2.2⟩
theorem Told.but {lo : Nat} {w w' : World} {A : Option Addr} {cs : List Value} (h : Told lo w A cs) (hk : ∀ k, lo ≤ k → w'.heap[k]? = w.heap[k]?) : Told lo w' A cs := fun hn => by
  obtain ⟨g, cur, ty, rfl, hl, hh, hc⟩ := h hn
  exact ⟨g, cur, ty, rfl, hl, (hk g hl).trans hh, hc⟩
set_option maxRecDepth 100000 in
set_option maxHeartbeats 2000000 in
theorem due_c (a0 a1 a2 : Int) (A : Option Addr) (cap : Nat) (zs : List (Bool × Int)) (w : World) (h0 : 0 ≤ a0 ∧ a0 ≤ 255) (h1 : 0 ≤ a1 ∧ a1 ≤ 255) (h2 : 0 ≤ a2 ∧ a2 ≤ 4294967295) (hcap : zs.length ≤ cap) (hmax : cap ≤ maxLen) (hcell : ∀ (wr : World), Made w wr → ∀ (i : Nat) (p : Bool) (z : Int), zs[i]? = some (p, z) → ∃ d : Addr, A = some d ∧ wr.cell? (d.add (i * 2)) = some (.bool p) ∧ wr.cell? ((d.add (i * 2)).add 1) = some (.int .u32 z)) (hz : ∀ z ∈ zs, 0 ≤ z.2 ∧ z.2 < 4294967296) :
    Calls Try.prog 9 #[.int .u8 a0, .int .u8 a1, .int .u32 a2, .slice A zs.length cap] w fun e w' => e = .returned (.bool true) ∧ Made w w' := by
  have HC := Lib.hid hcell
  have HZ := Lib.hid hz
  have HN := Lib.hid (And.intro hcap hmax)
  clear hcell hz hcap hmax
  obtain ⟨n, hn⟩ : ∃ n, n = zs.length := ⟨_, rfl⟩
  rw [← hn]
  have HL := Lib.hid hn
  clear hn
  by_cases hbig : 50 < n
  · have i1 : (50 : Int) < (n : Int) := by omega
    go_enter Try.func9, Try.ntmps9
    go_wp2_with fail
    refine (speaks_c _).mono ?_
    rintro e w1 ⟨rfl, hm1⟩
    have HM1 := Lib.hid hm1
    clear hm1
    go_wp2_with fail
    refine (speaks_c _).mono ?_
    rintro e w2 ⟨rfl, hm2⟩
    have HM2 := Lib.hid hm2
    clear hm2
    go_wp2_with fail
    go_ret
    exact ⟨rfl, Made.trans HM1.out HM2.out⟩
  · have i1 : (n : Int) ≤ 50 := by omega
    go_enter Try.func9, Try.ntmps9
    go_wp2_with fail
    refine (speaks_c _).mono ?_
    rintro e w1 ⟨rfl, hm1⟩
    have HM1 := Lib.hid hm1
    clear hm1
    go_wp2_with fail
    obtain ⟨L, eL, hL1, hL5⟩ : ∃ L : Nat, 1 + a0 % 5 = (L : Int) ∧ 1 ≤ L ∧ L ≤ 5 := ⟨(1 + a0 % 5).toNat, by omega, by omega, by omega⟩
    obtain ⟨B, eB, hB1, hB4⟩ : ∃ B : Nat, 1 + a1 % 4 = (B : Int) ∧ 1 ≤ B ∧ B ≤ 4 := ⟨(1 + a1 % 4).toNat, by omega, by omega, by omega⟩
    rw [eL, eB]
    clear eL eB
    obtain ⟨S, hS, hS2, hS16⟩ : ∃ S : Nat, S = 2 ^ B ∧ 2 ≤ S ∧ S ≤ 16 := ⟨2 ^ B, rfl, Nat.pow_le_pow_right (n := 2) (i := 1) (by omega) hB1, Nat.pow_le_pow_right (n := 2) (j := 4) (by omega) hB4⟩
    have HS := Lib.hid hS
    clear hS
    refine (fresh_law L B S 20 hL1 (by omega) (by omega) hB1 HS.out hS2 (by omega) (by omega) w1).mono ?_
    rintro e w2 ⟨a, b, bl, bs, rfl, hw2, ha, hb, hm2⟩
    have ha' := Nat.le_trans HM1.out.size ha
    have hb' := Nat.le_trans HM1.out.size hb
    have HR := Lib.hid (Rest.start hw2 (Int.le_refl 0) ha' hb' (Made.trans HM1.out hm2) rfl)
    clear hw2 ha hb hm2 ha' hb'
    go_upto_region 9 with fail
    obtain ⟨nw, hnw, hn0, hn1⟩ : ∃ nw, a2 / 16 = nw ∧ 0 ≤ nw ∧ nw ≤ 268435455 := ⟨a2 / 16, rfl, by omega, by omega⟩
    rw [hnw]
    clear hnw
    have hLB : L * B ≤ 20 := Nat.mul_le_mul hL5 hB4
    generalize hgw : w2.alloc _ = w3 at HR ⊢
    clear hgw
    generalize w2.heap.size = G at HR ⊢
    have HLO := Lib.hid HR.out.lows
    have HW03 := Lib.hid HR.out.bel.size
    generalize hlo : w3.heap.size = lo at HLO HW03 ⊢
    have HD0 : Hid (Mid L S B nw 0 [] [] (fun _ _ => [])) := Mid.empty nw 0
    have HO0 : Hid (OwnI lo w3 (.slice none 0 0) []) := OwnI.nil lo w3
    have HLO3 : Hid (lo ≤ w3.heap.size) := by show lo ≤ w3.heap.size; omega
    clear hlo
    go_wp2_with fail
    go_loopw [13, 14, 56] (fun nv dv i wr => ∃ (r : Nat) (now c : Int) (xs ds : List Int) (A : Option Addr) (cap : Nat) (chs : Nat → Nat → List Nat), i = .int .i64 (r : Int) ∧ r ≤ n ∧ nv = .int .i64 now ∧ 0 ≤ now ∧ now ≤ 2147483648 ∧ c ≤ 1000 * (r : Int) ∧ dv = .slice A ds.length cap ∧ ds.length ≤ 20 ∧ Hid (ds.length ≤ cap ∧ cap ≤ maxLen) ∧ Hid (lo ≤ wr.heap.size) ∧ Hid (Rest a b bl bs L S B (1 + L * (1 + S) + 20) G w wr c xs chs) ∧ Hid (OwnI lo wr (.slice A ds.length cap) ds) ∧ Hid (Mid L S B now 0 [] ds chs)) (fun _ _ i _ => (n - intOf i).toNat)
    case atStart => exact ⟨0, nw, 0, _, [], none, 0, _, rfl, by omega, rfl, by omega, by omega, by omega, rfl, by simp, Lib.hid ⟨Nat.le_refl _, Nat.zero_le _⟩, HLO3, HR, HO0, HD0⟩
    case round =>
      obtain ⟨r, now, c, xs, ds, A', cap', chs, rfl, hr, rfl, hnow0, hnow1, hc, rfl, hds, HDC, HLR, HRr, HOr, HDr⟩ := hrel
      by_cases hlt : r < n
      · have i2 : (r : Int) < (n : Int) := by omega
        have hrz : r < zs.length := by have := HL.out; omega
        obtain ⟨⟨p, z⟩, hpz⟩ : ∃ x, zs[r]? = some x := ⟨_, List.getElem?_eq_getElem hrz⟩
        obtain ⟨d, rfl, hdc1, hdc2⟩ := HC.out wr HRr.out.bel r p z hpz
        obtain ⟨hz0, hz1⟩ : 0 ≤ z ∧ z < 4294967296 := HZ.out _ (List.mem_of_getElem? hpz)
        have i0 : 0 ≤ (r : Int) := by omega
        have e0 : wr.cell? (d.add (r * 2)) = some (.bool p) := hdc1
        have e1 : wr.cell? ⟨(d.add (r * 2)).block, (d.add (r * 2)).off + 1, none⟩ = some (.int .u32 z) := hdc2
        clear hpz hrz hdc1 hdc2 HD0 HO0 HR
        go_upto_region 12 with fail
        have hmx : Made wr (wr.alloc (.cells #[.bool p, .int .u32 z] 79)) := (Made.refl _).alloc (Nat.le_refl _) _
        have hbx : (wr.alloc (.cells #[.bool p, .int .u32 z] 79)).heap[wr.heap.size]? = some (.cells #[.bool p, .int .u32 z] 79 (0, 0)) := heap_alloc_new _ _
        have hgx : a < wr.heap.size ∧ b < wr.heap.size := ⟨HRr.out.lt.1, HRr.out.lt.2.1⟩
        have hgx2 : wr.heap.size < (wr.alloc (.cells #[.bool p, .int .u32 z] 79)).heap.size := by simp only [World.size_alloc]; omega
        generalize wr.alloc (.cells #[.bool p, .int .u32 z] 79) = wx at hmx hbx hgx2 ⊢
        generalize wr.heap.size = gx at hbx hgx hgx2 HLR ⊢
        have HRx := Lib.hid (HRr.out.made hmx)
        have HOx := Lib.hid (HOr.out.made hmx)
        have y0 : wx.cell? ⟨gx, 0, none⟩ = some (.bool p) := by rw [cell_of_row _ _ _ _ _ _ hbx]; rfl
        have y1 : wx.cell? ⟨gx, 1, none⟩ = some (.int .u32 z) := by rw [cell_of_row _ _ _ _ _ _ hbx]; rfl
        have hlx : lo ≤ wx.heap.size := by have := HLR.out; omega
        have HLX := Lib.hid hlx
        have HBX := Lib.hid hbx
        have HY1 := Lib.hid y1
        clear e0 e1 hmx hbx HRr HOr HLR hlx
        have hlo5 := HLO.out
        obtain ⟨c0, c1, c2, c3, c4, c5, c6⟩ := HRx.out.cells
        cases p with
        | true =>
          by_cases h20 : ds.length < 20
          · have i3 : (ds.length : Int) < 20 := by omega
            obtain ⟨hA1, hA2⟩ : (∀ g, A' = some g → lo ≤ g.block) ∧ True := by
              obtain ⟨A2, c2', e2, _, _, h⟩ := HOx.out.shape
              simp only [Value.slice.injEq] at e2
              obtain ⟨rfl, _, _⟩ := e2
              exact ⟨fun g hg => (h g hg).1, trivial⟩
            have HA1 := Lib.hid hA1
            obtain ⟨dd, hdd, hd0, hd1⟩ : ∃ dd, now + 1 + z / 16 = dd ∧ now < dd ∧ dd ≤ now + 268435456 := ⟨_, rfl, by omega, by omega⟩
            have HDD := Lib.hid hdd
            have htm : tm now < tm dd := by
              have e1 := tm_of (t := now) (by omega) (by omega)
              have e2 := tm_of (t := dd) (by omega) (by omega)
              omega
            clear hA1 hA2 c0 c1 c2 c3 c4 c5 c6 HBX hdd HY1
            go_upto_region 15 with (at_builtin; (refine wpList_app _ rfl (.tmp 65) (.tmp 73) 23 rfl lo 3 (.int .i64 0) 8 elem_intd (.slice A' ds.length cap') ds.length (ds.map (Value.int .i64)) (by simp [Act.eval, Act.put]) (World.ownsRow.alloc HOx.out _) (some ⟨wx.heap.size, 0, none⟩) 1 1 [.int .i64 (now + 1 + z / 16)] (by simp [Act.eval, Act.put]) (Reads.row (cs := #[.int .i64 (now + 1 + z / 16)]) (heap_alloc_new wx _) rfl) (by simp [Value.oneCell']) (by unfold maxLen; omega) (by omega) (by simp only [World.size_alloc]; have := HLX.out; omega) ?_; intro A5 c5 w5 hown hgrow _; have HO5 := Lib.hid (own_snoc hown); have HB5 := Lib.hid (below_grown hgrow HA1.out HLX.out); clear hown hgrow))
            rw [HDD.out] at HO5
            have HR5 := Lib.hid (HRx.out.low HB5.out HLO.out HW03.out)
            have hsz5 : lo ≤ w5.heap.size := Nat.le_trans HLX.out HB5.out.size
            obtain ⟨lv, sl, hp, hvv, hI⟩ := (HR5.out.made (Made.drewN w5 1)).insert (t := ds.length) (now := now) (due := dd) h20 (by omega) HDr.out.fresh htm (by omega)
            have HI := Lib.hid hI
            have HDN := Lib.hid (HDr.out.put (d := dd) (by omega) (by omega) hp hvv)
            obtain ⟨g5, hA5, hg5a, hg5b, s7, _, _⟩ := HO5.out.at_ (t := ds.length) (d := dd) (by rw [List.getElem?_append_right (Nat.le_refl _)]; simp)
            subst hA5
            obtain ⟨c0, c1, c2, c3, c4, c5', c6⟩ := HR5.out.cells
            have HL5 := Lib.hid (And.intro hsz5 (And.intro hg5a hg5b))
            clear hI hp hvv htm hsz5 hg5a hg5b HRx HOx HDr HLX HA1 HDD
            have HGN : Hid (g5 ≠ a ∧ g5 ≠ b) := ⟨by have := HL5.out; omega, by have := HL5.out; omega⟩
            have HS7 : Hid (w5.drew.cell? ⟨g5, ds.length, none⟩ = some (.int .i64 dd)) := s7
            have v0 : (0 : Int) ≤ (ds.length : Int) := by omega
            have v1 : (ds.length : Int) < (ds.length : Int) + 1 := by omega
            have v2 : (ds.length : Int) < ((ds.length + 1 : Nat) : Int) := by omega
            have v3 : IntKind.i64.wrap (ds.length : Int) = (ds.length : Int) := by rw [IntKind.wrap_i64]; omega
            have v4 : IntKind.i64.wrap ((ds.length : Int) + 1 - 1) = (ds.length : Int) := by rw [IntKind.wrap_i64]; omega
            have v5 : IntKind.i64.wrap (((ds.length + 1 : Nat) : Int) - 1) = (ds.length : Int) := by rw [IntKind.wrap_i64]; omega
            go_region_held3 (fun w1 => w1.cell? ⟨G, 0, none⟩ = some (.pointer (some ⟨a, 0, none⟩)) ∧ w1.cell? ⟨G, 1, none⟩ = some (.int .i64 (L : Int)) ∧ w1.cell? ⟨G, 2, none⟩ = some (.int .i64 (B : Int)) ∧ w1.cell? ⟨G, 3, none⟩ = some (.int .i64 0) ∧ w1.cell? ⟨G, 4, none⟩ = some (.func (.func 59) #[] #[]) ∧ w1.cell? ⟨G, 5, none⟩ = some (.func (.func 60) #[] #[.pointer (some ⟨bl, 0, none⟩), .pointer (some ⟨bs, 0, none⟩)]) ∧ w1.cell? ⟨G, 6, none⟩ = some (.func (.func 61) #[] #[.pointer (some ⟨bl, 0, none⟩), .pointer (some ⟨bs, 0, none⟩)]) ∧ w1.cell? ⟨g5, ds.length, none⟩ = some (.int .i64 dd)) (first | (refine ⟨?_, ?_, ?_, ?_, ?_, ?_, ?_, ?_⟩ <;> first | assumption | simpa using c0 | simpa using c1 | simpa using c2 | simpa using c3 | simpa using c4 | simpa using c5' | simpa using c6 | simpa using s7)) (first | (go_at_call 31; refine HI.out.mono ?_; rintro e w6 ⟨rfl, c6', xs6, hR6, hc6, hP6⟩; have HR6 := Lib.hid hR6; have HP6 := Lib.hid hP6; obtain ⟨k0, k1, k2, k3, k4, k5, k6⟩ := hR6.cells; have k7 := cell_past HP6.out HS7.out HGN.out))
            clear v0 v1 v2 v3 v4 v5 c0 c1 c2 c3 c4 c5' c6 s7 k0 k1 k2 k3 k4 k5 k6 k7 HI hR6 HS7
            have HO6 : Hid (OwnI lo w6 (.slice (some ⟨g5, 0, none⟩) (ds ++ [dd]).length c5) (ds ++ [dd])) := by
              have h := (HO5.out.made (Made.drewN w5 1)).past HP6.out HLO.out.1 HLO.out.2.1
              rw [List.length_append]
              exact Lib.hid h
            have HC6 : Hid ((ds ++ [dd]).length ≤ c5 ∧ c5 ≤ maxLen) := by
              obtain ⟨A2, c2', e2, q1, q2, _⟩ := HO6.out.shape
              simp only [Value.slice.injEq] at e2
              obtain ⟨_, _, rfl⟩ := e2
              exact ⟨q1, q2⟩
            have HL6 : Hid (lo ≤ w6.heap.size) := by
              exact Nat.le_trans HL5.out.1 HP6.out.size
            have hl6 : (ds ++ [dd]).length ≤ 20 := by rw [List.length_append, List.length_singleton]; omega
            have hE6 : Hid ((Value.slice (some ⟨g5, 0, none⟩) (ds.length + 1) c5) = .slice (some ⟨g5, 0, none⟩) (ds ++ [dd]).length c5) := by rw [List.length_append]; exact Lib.hid rfl
            go_wp2_with fail
            go_roundw
            case rel => exact ⟨r + 1, now, c6', xs6, ds ++ [dd], _, c5, _, by go_num, by omega, rfl, by omega, by omega, by omega, hE6.out, hl6, HC6, HL6, HR6, HO6, HDN⟩
            case measure => simp [intOf]; omega
          · have i3 : ¬ (ds.length : Int) < 20 := by omega
            have HXL := HRx
            clear c0 c1 c2 c3 c4 c5 c6 HBX y1
            go_wp2_with fail
            go_roundw
            case rel => exact ⟨r + 1, now, c, xs, ds, A', cap', chs, by go_num, by omega, rfl, by omega, by omega, by omega, rfl, hds, HDC, HLX, HRx, HOx, HDr⟩
            case measure => simp [intOf]; omega
        | false =>
          obtain ⟨tt, htt⟩ : ∃ tt, (peekR now L B xs L 0).1 = tt := ⟨_, rfl⟩
          have HAT : Hid (∀ lv sl t d, Val L S lv sl → t ∈ chs lv sl → ds[t]? = some d → tt ≤ d) := by
            rw [← htt]
            exact Lib.hid (HDr.out.peek HRx.out.whe.wst (by omega) hB1 (by omega) HS.out)
          have HPE := Lib.hid (HRx.out.peek (now := now) (by omega) hLB)
          rw [htt] at HPE
          have HGX : Hid (gx ≠ a ∧ gx ≠ b) := ⟨by omega, by omega⟩
          clear HBX y1 htt
          have y1 : wx.cell? ⟨gx, 1, none⟩ = some (.int .u32 z) := HY1.out
          go_wp2_with fail
          refine HPE.out.mono ?_
          rintro e w5 ⟨rfl, c5', hR5, hc5, hP5⟩
          have HR5 := Lib.hid hR5
          have y5 := cell_past hP5 HY1.out HGX.out
          have HO5 := Lib.hid (HOx.out.past hP5 HLO.out.1 HLO.out.2.1)
          have HL5 : Hid (lo ≤ w5.heap.size) := Nat.le_trans HLX.out hP5.size
          clear c0 c1 c2 c3 c4 c5 c6 y0 y1 hR5 hP5 HPE HRx HOx HLX HY1
          obtain ⟨c0, c1, c2, c3, c4, c5, c6⟩ := HR5.out.cells
          by_cases hto : 2147483648 < now + z / 64
          · go_wp2_with fail
            go_ret
            exact ⟨rfl, HR5.out.bel⟩
          · obtain ⟨to', hto', ht0, ht1⟩ : ∃ to', now + z / 64 = to' ∧ now ≤ to' ∧ to' ≤ 2147483648 := ⟨_, rfl, by omega, by omega⟩
            have HTO := Lib.hid hto'
            have hMid := (HDr.out.any (at2 := tt)).pass (to' := to') HR5.out.whe.wst (by omega) hnow0 ht0 (by omega) HAT.out
            obtain ⟨g, hg⟩ : ∃ g, passG (crOf now to' B) S L 0 chs = g := ⟨_, rfl⟩
            rw [hg] at hMid
            have hgl : g.length ≤ 20 := by
              have h1 := hMid.len
              have h2 := alive_le ds
              omega
            have HPA := Lib.hid (HR5.out.pass (fr := now) (to' := to') (by omega) (by rw [hg]; omega))
            rw [hg] at HPA
            have HM5 := Lib.hid hMid
            clear hMid hg hto' HAT HDr
            go_wp2_with fail
            rw [HTO.out]
            refine HPA.out.mono ?_
            rintro e w6 ⟨A6, cap6, rfl, hl6, hm6, c6', xs6, hR6, hc6, hP6, ht6⟩
            have HR6 := Lib.hid hR6
            have HT6 := Lib.hid ht6
            have HO6 := Lib.hid (HO5.out.past hP6 HLO.out.1 HLO.out.2.1)
            have HL6 : Hid (lo ≤ w6.heap.size) := Nat.le_trans HL5.out hP6.size
            have HA5 : Hid (∀ g, A' = some g → g.block < w5.heap.size) := by
              obtain ⟨A2, c2', e2, _, _, h⟩ := HO5.out.shape
              simp only [Value.slice.injEq] at e2
              obtain ⟨rfl, _, _⟩ := e2
              exact fun g hg => (h g hg).2
            clear c0 c1 c2 c3 c4 c5 c6 y5 hR6 ht6 HPA HR5 HO5
            have HS6 : Hid (w5.heap.size ≤ w6.heap.size) := hP6.size
            have HLS : Hid (lo ≤ w5.heap.size) := HL5.out
            clear hP6 HL5
            generalize w5.heap.size = s5 at HT6 HA5 HS6 HLS
            have HM6 : Hid (Mid L S B to' tt (g.drop 0) ds (passCh (crOf now to' B) L 0 chs)) := HM5
            clear HM5
            go_wp2_with fail
            go_loopw [118] (fun i wz => ∃ (m : Nat) (c7 : Int) (xs7 ds7 : List Int) (chs7 : Nat → Nat → List Nat), i = .int .i64 (m : Int) ∧ m ≤ g.length ∧ c7 ≤ 1000 * (r : Int) + 609 + 5 * (m : Int) ∧ Hid (ds7.length = ds.length) ∧ Hid (lo ≤ wz.heap.size) ∧ Hid (Rest a b bl bs L S B (1 + L * (1 + S) + 20) G w wz c7 xs7 chs7) ∧ Hid (OwnI lo wz (.slice A' ds.length cap') ds7) ∧ Hid (Mid L S B to' tt (g.drop m) ds7 chs7) ∧ Hid (Told s5 wz A6 (vals g)) ∧ Hid (s5 ≤ wz.heap.size)) (fun i _ => (g.length - intOf i).toNat)
            case atStart => exact ⟨0, c6', xs6, ds, _, rfl, by omega, by omega, Lib.hid rfl, HL6, HR6, HO6, HM6, HT6, HS6⟩
            case round =>
              clear HR6 HO6 HM6 HT6 HS6 HL6
              obtain ⟨m, c7, xs7, ds7, chs7, rfl, hm, hc7, HE7, HL7, HR7, HO7, HM7, HT7, HS7⟩ := hrel
              by_cases hlm : m < g.length
              · have i3 : (m : Int) < (g.length : Int) := by omega
                obtain ⟨t, ht⟩ : ∃ t, g[m] = t := ⟨_, rfl⟩
                have hdrop : g.drop m = t :: g.drop (m + 1) := by rw [← ht]; exact List.drop_eq_getElem_cons hlm
                have hMd := HM7.out
                rw [hdrop] at hMd
                obtain ⟨⟨dt, hdt, hdt0, hdt1⟩, hnone⟩ := hMd.gone t List.mem_cons_self
                have htl : t < ds.length := by have := (List.getElem?_eq_some_iff.1 hdt).1; have := HE7.out; omega
                have hg0 : vals g ≠ [] := fun c => by
                  have : (vals g).length = 0 := by rw [c]; rfl
                  unfold vals at this; rw [List.length_map] at this; omega
                obtain ⟨g8, cur8, ty8, rfl, hlo8, hb8, hc8⟩ := HT7.out hg0
                have x0 : wr.cell? ⟨g8, m, none⟩ = some (.int .i64 (t : Int)) := by
                  rw [cell_of_row _ _ _ _ _ _ hb8, hc8 _ (by unfold vals; rw [List.length_map]; exact hlm)]
                  unfold vals; rw [List.getElem?_map, List.getElem?_eq_getElem hlm, ht]; rfl
                obtain ⟨gd, rfl, hgd1, hgd2, x1, z1, HST⟩ := HO7.out.at_ hdt
                have hgds : gd < s5 := HA5.out ⟨gd, 0, none⟩ rfl
                have j0 : (0 : Int) ≤ (t : Int) := by omega
                have j1 : (t : Int) < (ds.length : Int) := by omega
                have j2 : ¬ (ds.length : Int) ≤ (t : Int) := by omega
                have j3 : ¬ dt < 0 := by omega
                have j4 : ¬ dt < tt := by omega
                have hdtb := (HM7.out.bd dt (List.mem_of_getElem? hdt)).2
                have HMD := Lib.hid hMd
                have HNN := Lib.hid hnone
                have HDT := Lib.hid hdt
                obtain ⟨c0, c1, c2, c3, c4, c5, c6⟩ := HR7.out.cells
                clear hMd hnone hdt hdrop ht hg0 hlo8 hb8 hc8 HM7
                by_cases hlate : to' < dt
                · have htm : tm to' < tm dt := by
                    have e1 := tm_of (t := to') (by omega) (by omega)
                    have e2 := tm_of (t := dt) (by omega) (by omega)
                    omega
                  obtain ⟨lv, sl, hp, hvv, hI⟩ := (HR7.out.made (Made.drewN wr 1)).insert (t := t) (now := to') (due := dt) (by omega) (by omega) HNN.out htm (by omega)
                  have HI := Lib.hid hI
                  have HMN := Lib.hid (HMD.out.again HDT.out hdt0 hp hvv)
                  have HGN : Hid (gd ≠ a ∧ gd ≠ b) := ⟨by have := HLO.out; omega, by have := HLO.out; omega⟩
                  have HS1 : Hid (wr.drew.cell? ⟨gd, t, none⟩ = some (.int .i64 dt)) := x1
                  clear hI hp hvv htm HMD HNN HDT HST
                  go_upto_region 30 with fail
                  go_region_held3 (fun w1 => w1.cell? ⟨G, 0, none⟩ = some (.pointer (some ⟨a, 0, none⟩)) ∧ w1.cell? ⟨G, 1, none⟩ = some (.int .i64 (L : Int)) ∧ w1.cell? ⟨G, 2, none⟩ = some (.int .i64 (B : Int)) ∧ w1.cell? ⟨G, 3, none⟩ = some (.int .i64 0) ∧ w1.cell? ⟨G, 4, none⟩ = some (.func (.func 59) #[] #[]) ∧ w1.cell? ⟨G, 5, none⟩ = some (.func (.func 60) #[] #[.pointer (some ⟨bl, 0, none⟩), .pointer (some ⟨bs, 0, none⟩)]) ∧ w1.cell? ⟨G, 6, none⟩ = some (.func (.func 61) #[] #[.pointer (some ⟨bl, 0, none⟩), .pointer (some ⟨bs, 0, none⟩)]) ∧ w1.cell? ⟨gd, t, none⟩ = some (.int .i64 dt)) (first | (refine ⟨?_, ?_, ?_, ?_, ?_, ?_, ?_, ?_⟩ <;> first | assumption | simpa using c0 | simpa using c1 | simpa using c2 | simpa using c3 | simpa using c4 | simpa using c5 | simpa using c6 | simpa using x1)) (first | (go_at_call 31; refine HI.out.mono ?_; rintro e w6 ⟨rfl, c6', xs6, hR6, hc6, hP6⟩; have HR6 := Lib.hid hR6; have HP6 := Lib.hid hP6; obtain ⟨k0, k1, k2, k3, k4, k5, k6⟩ := hR6.cells; have k7 := cell_past HP6.out HS1.out HGN.out))
                  have HO6 := Lib.hid ((HO7.out.made (Made.drewN wr 1)).past HP6.out HLO.out.1 HLO.out.2.1)
                  have HL6 : Hid (lo ≤ w6.heap.size) := Nat.le_trans HL7.out HP6.out.size
                  have HS6 : Hid (s5 ≤ w6.heap.size) := Nat.le_trans HS7.out HP6.out.size
                  have HT6 : Hid (Told s5 w6 (some ⟨g8, 0, none⟩) (vals g)) := (HT7.out.made (Made.drewN wr 1)).past HP6.out (by have := HLO.out; have := HLS.out; omega) (by have := HLO.out; have := HLS.out; omega)
                  clear c0 c1 c2 c3 c4 c5 c6 k0 k1 k2 k3 k4 k5 k6 k7 x0 x1 z1 hR6 HI HP6 HS1
                  go_wp2_with fail
                  go_roundw
                  case rel => exact ⟨m + 1, c6', xs6, ds7, _, by go_num, by omega, by omega, HE7, HL6, HR6, HO6, HMN, HT6, HS6⟩
                  case measure => simp [intOf]; omega
                · have HMN := Lib.hid (HMD.out.over HDT.out hdt0)
                  have HO6 : Hid (OwnI lo (wr.setCell ⟨gd, t, none⟩ (.int .i64 (-1))) (.slice (some ⟨gd, 0, none⟩) ds.length cap') (ds7.set t (-1))) := HST (-1)
                  have HE6 : Hid ((ds7.set t (-1)).length = ds.length) := by rw [List.length_set]; exact HE7
                  have hsz : (wr.setCell ⟨gd, t, none⟩ (.int .i64 (-1))).heap.size = wr.heap.size := by simp [World.setCell]
                  have HL6 : Hid (lo ≤ (wr.setCell ⟨gd, t, none⟩ (.int .i64 (-1))).heap.size) := by rw [hsz]; exact HL7
                  have HS6 : Hid (s5 ≤ (wr.setCell ⟨gd, t, none⟩ (.int .i64 (-1))).heap.size) := by rw [hsz]; exact HS7
                  have HR6 := Lib.hid (HR7.out.low (w' := wr.setCell ⟨gd, t, none⟩ (.int .i64 (-1))) (Below.setCell (Below.refl lo wr) hgd1 _) HLO.out HW03.out)
                  have HT6 : Hid (Told s5 (wr.setCell ⟨gd, t, none⟩ (.int .i64 (-1))) (some ⟨g8, 0, none⟩) (vals g)) := HT7.out.but fun k hk => Cell.heap_setCell_other _ _ _ _ _ (by omega)
                  clear hsz HMD HNN HDT HST
                  go_wp2_with fail
                  go_roundw
                  case rel => exact ⟨m + 1, c7, xs7, _, chs7, by go_num, by omega, by omega, HE6, HL6, HR6, HO6, HMN, HT6, HS6⟩
                  case measure => simp [intOf]; omega
              · obtain rfl : m = g.length := by omega
                have hMd := HM7.out
                rw [List.drop_length] at hMd
                have HMD := Lib.hid hMd
                have HLAT := Lib.hid (hMd.later (by omega) (by omega))
                have hal := alive_le ds7
                have hlen := hMd.len
                simp only [List.length_nil, Nat.add_zero] at hlen
                have hLI := HR7.out.list (by rw [hlen]; have := HE7.out; omega)
                rw [hlen] at hLI
                have HLI := Lib.hid hLI
                clear hMd hlen hLI HM7 HT7 HS7 hal
                go_wp2_with fail
                go_loopw [24, 167] (fun lv i wz => ∃ (k : Nat), i = .int .i64 (k : Int) ∧ k ≤ ds.length ∧ lv = .int .i64 ((alive (ds7.take k) : Nat) : Int) ∧ wz = wr) (fun _ i _ => (ds.length - intOf i).toNat)
                case atStart => exact ⟨0, rfl, by omega, rfl, rfl⟩
                case round =>
                  obtain ⟨k, rfl, hk, rfl, rfl⟩ := hrel
                  by_cases hlk : k < ds.length
                  · have i4 : (k : Int) < (ds.length : Int) := by omega
                    have hk7 : k < ds7.length := by have := HE7.out; omega
                    obtain ⟨dk, hdk⟩ : ∃ dk, ds7[k]? = some dk := ⟨_, List.getElem?_eq_getElem hk7⟩
                    obtain ⟨gd, rfl, hgd1, hgd2, x1, z1, _⟩ := HO7.out.at_ hdk
                    have hat := alive_take ds7 k dk hdk
                    have hala := alive_le (ds7.take k)
                    rw [List.length_take] at hala
                    have hala2 : alive (ds7.take k) ≤ 20 := by omega
                    have HLT := HLAT.out dk (List.mem_of_getElem? hdk)
                    obtain ⟨ak, hak⟩ : ∃ ak, alive (ds7.take k) = ak := ⟨_, rfl⟩
                    rw [hak] at hat hala2 ⊢
                    have HATK := Lib.hid hat
                    clear hdk hat hala hak hk7
                    by_cases hd0 : 0 ≤ dk
                    · have j1 : ¬ dk ≤ to' := by have := HLT hd0; omega
                      have HAK : Hid (alive (ds7.take (k + 1)) = ak + 1) := by have := HATK.out; rw [if_pos hd0] at this; exact this
                      clear HLT HATK
                      go_wp2_with fail
                      go_roundw
                      case rel => exact ⟨k + 1, by go_num, by omega, by rw [HAK.out]; go_num, trivial⟩
                      case measure => simp [intOf]; omega
                    · have HAK : Hid (alive (ds7.take (k + 1)) = ak) := by have := HATK.out; rw [if_neg hd0] at this; exact this
                      clear HLT HATK
                      go_wp2_with fail
                      go_roundw
                      case rel => exact ⟨k + 1, by go_num, by omega, by rw [HAK.out], trivial⟩
                      case measure => simp [intOf]; omega
                  · obtain rfl : k = ds.length := by omega
                    have HTK : Hid (ds7.take ds.length = ds7) := List.take_of_length_le (by have := HE7.out; omega)
                    rw [HTK.out]
                    obtain ⟨c0, c1, c2, c3, c4, c5, c6⟩ := HR7.out.cells
                    have hala := alive_le ds7
                    have hal20 : alive ds7 ≤ 20 := by have := HE7.out; omega
                    obtain ⟨ak, hak⟩ : ∃ ak, alive ds7 = ak := ⟨_, rfl⟩
                    rw [hak] at HLI hal20 ⊢
                    clear hak hala HTK HLAT
                    go_wp2_with fail
                    refine HLI.out.mono ?_
                    rintro e w8 ⟨A8, cap8, rfl, hl8, hm8, ht8, hM8, hR8⟩
                    have HR8 := Lib.hid hR8
                    have HL8 : Hid (lo ≤ w8.heap.size) := Nat.le_trans HL7.out hM8.size
                    have HO8 : Hid (OwnI lo w8 (.slice A' ds7.length cap') ds7) := by rw [HE7.out]; exact Lib.hid (HO7.out.made hM8)
                    have HV8 : Hid ((Value.slice A' ds.length cap') = .slice A' ds7.length cap') := by rw [HE7.out]; exact Lib.hid rfl
                    have HC8 : Hid (ds7.length ≤ cap' ∧ cap' ≤ maxLen) := by rw [HE7.out]; exact HDC
                    have hl8' : ds7.length ≤ 20 := by have := HE7.out; omega
                    have HM8 : Hid (Mid L S B to' 0 [] ds7 chs7) := HMD.out.any
                    clear c0 c1 c2 c3 c4 c5 c6 ht8 hM8 hR8 HLI HR7 HO7 HE7 HMD HL7
                    go_wp2_with fail
                    go_roundw
                    case rel => exact ⟨r + 1, to', c7, xs7, ds7, A', cap', chs7, by go_num, by omega, rfl, by omega, by omega, by omega, HV8.out, hl8', HC8, HL8, HR8, HO8, HM8⟩
                    case measure => simp [intOf]; omega
      · obtain rfl : r = n := by omega
        go_wp2_with fail
        go_ret
        exact ⟨rfl, HRr.out.bel⟩
theorem due (a0 a1 a2 : Int) (v : Value) (zs : List (Bool × Int)) (w : World) (h0 : (Lit.int .u8 a0).wf = true) (h1 : (Lit.int .u8 a1).wf = true) (h2 : (Lit.int .u32 a2).wf = true) (hv : SlBU w v zs) :
    Calls Try.prog 9 #[.int .u8 a0, .int .u8 a1, .int .u32 a2, v] w fun e w' => e = .returned (.bool true) ∧ Made w w' := by
  obtain ⟨⟨A, cap, rfl, hcap, hmax, hcell⟩, hz⟩ := hv
  rw [List.length_map] at hcap ⊢
  simp [Lit.wf, IntKind.min, IntKind.max, IntKind.signed, IntKind.bits] at h0 h1 h2
  refine due_c a0 a1 a2 A cap zs w h0 h1 h2 hcap hmax (fun wr hm i p z hi => ?_) hz
  obtain ⟨d, rfl, hb, k1, k2⟩ := hcell i (.bool p, .int .u32 z) (by rw [List.getElem?_map, hi]; rfl)
  exact ⟨d, rfl, (hm.cell (by rw [addr_block]; exact hb)).trans k1, (hm.cell (by rw [addr_block, addr_block]; exact hb)).trans k2⟩
end Go.Proofs.Ytndpkonihcebeaa.Whl
