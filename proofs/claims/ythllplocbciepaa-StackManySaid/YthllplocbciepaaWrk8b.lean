/- Layer 8's laws: a worker's memory is written. -/
import Derived.Test.YthllplocbciepaaWrk8
namespace Go.Proofs.Ythllplocbciepaa.Kod.Eight
open Go.RowKit Go.Proofs.Ythllplocbciepaa Go.Proofs.Ythllplocbciepaa.Cell Go.Proofs.Ythllplocbciepaa.Wd
set_option linter.unusedVariables false
set_option linter.unusedSimpArgs false
variable {a b : Nat} {gb : Nat → Nat}

theorem row_block {w : World} {v : Value} {n : Nat} {xs : List Value} {k : Nat} (h : w.ownsRow 0 3 1 v n xs) (hk : v.ownBlock = some k) : ∃ cur, w.heap[k]? = some (.cells cur 3 (0, 0)) := by
  obtain ⟨_, h1⟩ := h
  rcases h1 with ⟨rfl, _⟩ | ⟨g, cap, cur, rfl, _, hg, _⟩
  · simp [Value.ownBlock] at hk
  · obtain rfl : g = k := by simpa [Value.ownBlock] using hk
    exact ⟨cur, hg⟩
theorem row_later {w w' : World} {v : Value} {n : Nat} {xs : List Value} (h : w.ownsRow 0 3 1 v n xs) (hs : ∀ k : Nat, v.ownBlock = some k → w'.heap[k]? = w.heap[k]?) : w'.ownsRow 0 3 1 v n xs := by
  obtain ⟨h0, h1⟩ := h
  refine ⟨h0, ?_⟩
  rcases h1 with h1 | ⟨g, cap, cur, rfl, hb, hg, hr⟩
  · exact Or.inl h1
  · exact Or.inr ⟨g, cap, cur, rfl, hb, (hs g rfl).trans hg, hr⟩
/-- Blocks of other kinds are other blocks. -/
theorem kind_ne {w : World} {k l : Nat} {c d : Array Value} {t u : TypeId} (h1 : w.heap[k]? = some (.cells c t (0, 0))) (h2 : w.heap[l]? = some (.cells d u (0, 0))) (h : t ≠ u) : k ≠ l := by
  rintro rfl
  rw [h1] at h2
  simp only [Option.some.injEq, Obj.cells.injEq] at h2
  exact h h2.2.1
theorem lt_of_at {w : World} {k : Nat} {o : Obj} (h : w.heap[k]? = some o) : k < w.heap.size := (Array.getElem?_eq_some_iff.1 h).1

/-- The rest of Inv, when the rest's blocks are written. -/
theorem Inv.rest {S : Sys} {n : Nat} {σ : St S.R} {rs : List Value} {L : Lay} {w w' : World} {X own' : Nat → Prop} {r' : S.R} (h : Inv S n σ rs L w) (hw : Wrote X w w') (hX : ∀ k, X k → L.own k) (ho : ∀ k, own' k → (L.own k ∨ w.heap.size ≤ k) ∧ k < w'.heap.size) (hle : ∀ k, L.own k → own' k) (hJ : S.J r' own' L.gh w') :
    Inv S n { σ with r := r' } rs { L with own := own' } w' ∧ Ext S w L w' { L with own := own' } ∧ Keeps w L w' { L with own := own' } := by
  have hs := hw.size
  have ha := lt_of_at h.ar.ha
  have hb := lt_of_at h.ar.hb
  have hA := hw.block _ ha (fun e => (h.owna _ (hX _ e)).1 rfl)
  have hB := hw.block _ hb (fun e => (h.owna _ (hX _ e)).2.1 rfl)
  refine ⟨⟨arena_same h.ar hA hB, h.fuel, h.wide, h.len, h.nts, h.nst, fun i t v s h1 h2 h3 => ?_, h.few, h.once, fun t ht => ?_, fun k hk => ?_, hJ, fun k hk => ?_⟩, ⟨hw.os, hw.tape, hw.output, hs, fun k hk hn => ⟨fun e => ?_, ?_⟩, List.prefix_refl _⟩, ⟨rfl, rfl, rfl, fun k hk => ?_⟩⟩
  · have ht : t ∈ L.ts := List.mem_of_getElem? h1
    exact (hw.block t (h.task_lt ht) (fun e => (h.tsa t ht).2.2 (hX _ e))).trans (h.task i t v s h1 h2 h3)
  · refine ⟨(h.tsa t ht).1, (h.tsa t ht).2.1, fun e => ?_⟩
    rcases (ho t e).1 with e | e
    · exact (h.tsa t ht).2.2 e
    · have := h.task_lt ht; omega
  · obtain ⟨h1, h2⟩ := ho k hk
    rcases h1 with h1 | h1
    · exact ⟨(h.owna k h1).1, (h.owna k h1).2.1, h2⟩
    · exact ⟨fun e => by omega, fun e => by omega, h2⟩
  · have hk' := h.scra k hk
    refine ⟨hk'.1, hk'.2.1, hk'.2.2.1, fun e => ?_, by omega⟩
    rcases (ho k e).1 with e | e
    · exact hk'.2.2.2.1 e
    · omega
  · rcases e with e | e | e | e | e
    · exact hn (Or.inl e)
    · exact hn (Or.inr (Or.inl e))
    · exact hn (Or.inr (Or.inr (Or.inl e)))
    · rcases (ho k e).1 with e | e
      · exact hn (Or.inr (Or.inr (Or.inr (Or.inl e))))
      · omega
    · exact hn (Or.inr (Or.inr (Or.inr (Or.inr e))))
  · exact hw.block k hk (fun e => hn (Or.inr (Or.inr (Or.inr (Or.inl (hX k e))))))
  · exact hw.block k (h.scra k hk).2.2.2.2 (fun e => (h.scra k hk).2.2.2.1 (hX k e))
theorem W8s.bl {r : List W8} {own : Nat → Prop} {gh : List Nat} {w : World} {hv sv : Nat → Value} {gb : Nat → Nat} (h : W8s r own gh w hv sv gb) {j : Nat} (hj : j < r.length) : ∃ b, gh[j]? = some b ∧ Wk own w b (gb j) r[j] (hv j) (sv j) := by
  have hg : j < gh.length := by rw [h.len]; exact hj
  exact ⟨_, List.getElem?_eq_getElem hg, h.wk j _ _ (List.getElem?_eq_getElem hj) (List.getElem?_eq_getElem hg)⟩
theorem W8s.hlt {r : List W8} {own : Nat → Prop} {gh : List Nat} {w : World} {hv sv : Nat → Value} {gb : Nat → Nat} (h : W8s r own gh w hv sv gb) {j k : Nat} (hj : j < r.length) (hk : (hv j).ownBlock = some k) : k < w.heap.size := by
  obtain ⟨b, _, hw⟩ := h.bl hj
  obtain ⟨cur, hc⟩ := row_block hw.row hk
  exact lt_of_at hc
theorem W8s.slt {r : List W8} {own : Nat → Prop} {gh : List Nat} {w : World} {hv sv : Nat → Value} {gb : Nat → Nat} (h : W8s r own gh w hv sv gb) {j k : Nat} (hj : j < r.length) (hk : (sv j).ownBlock = some k) : k < w.heap.size := by
  obtain ⟨b, _, hw⟩ := h.bl hj
  cases hg : r[j].got with
  | none =>
    have := h.sn j _ (List.getElem?_eq_getElem hj) hg
    rw [this] at hk
    simp at hk
  | some g =>
    obtain ⟨_, _, g3, _⟩ := hw.got g hg
    obtain ⟨cur, hc⟩ := row_block g3 hk
    exact lt_of_at hc
/-- A worker's block and its hands are written. -/
theorem upd {n : Nat} {σ : St (List W8)} {rs : List Value} {L : Lay} {w w' : World} {hv sv : Nat → Value} {gb : Nat → Nat} {j wb : Nat} {x x' : W8} {hv' : Value} (h : Inv (S8 a b gb) n σ rs L w) (hJ : W8s σ.r L.own L.gh w hv sv gb) (hx : σ.r[j]? = some x) (hg : L.gh[j]? = some wb)
    (hw : Wrote (fun k => k = wb ∨ (hv j).ownBlock = some k) w w') (hc : w'.heap[wb]? = some (.cells #[hv', gotv x' (gb j), .bool x'.busy, .bool x'.bare, .bool x'.wrong] 88 (0, 0)))
    (hr : w'.ownsRow 0 3 1 hv' x'.hands.length (x'.hands.map (.int .i64))) (ho : ∀ k, hv'.ownBlock = some k → ((hv j).ownBlock = some k ∨ w.heap.size ≤ k) ∧ k < w'.heap.size) (hgot : x'.got = x.got) (hrng : ∀ i ∈ x'.hands, 0 ≤ i ∧ i < 4294967295) :
    Inv (S8 a b gb) n (setw σ j x') rs { L with own := fun k => L.own k ∨ hv'.ownBlock = some k } w' ∧ Ext (S8 a b gb) w L w' { L with own := fun k => L.own k ∨ hv'.ownBlock = some k } ∧ Keeps w L w' { L with own := fun k => L.own k ∨ hv'.ownBlock = some k } ∧
      W8s (setw σ j x').r (fun k => L.own k ∨ hv'.ownBlock = some k) L.gh w' (fun i => if i = j then hv' else hv i) sv gb := by
  have hk := hJ.wk j x wb hx hg
  have hjl : j < σ.r.length := (List.getElem?_eq_some_iff.1 hx).1
  have hold : ∀ k : Nat, k < w.heap.size → k ≠ wb → (hv j).ownBlock ≠ some k → w'.heap[k]? = w.heap[k]? := fun k h1 h2 h3 => hw.block k h1 (fun e => by rcases e with e | e; exact h2 e; exact h3 e)
  have hW : W8s (setw σ j x').r (fun k => L.own k ∨ hv'.ownBlock = some k) L.gh w' (fun i => if i = j then hv' else hv i) sv gb := by
    have hlen : (setw σ j x').r.length = σ.r.length := by simp [setw]
    have hget : ∀ (i : Nat) (y : W8), (setw σ j x').r[i]? = some y → ∃ y', σ.r[i]? = some y' ∧ y'.got = y.got := fun i y hy => by
      by_cases hij : i = j
      · subst hij
        simp only [setw, List.getElem?_set_self hjl] at hy
        obtain rfl := Option.some.inj hy
        exact ⟨x, hx, hgot.symm⟩
      · simp only [setw, List.getElem?_set_ne (Ne.symm hij)] at hy
        exact ⟨y, hy, rfl⟩
    refine ⟨by rw [hJ.len]; simp [setw], hJ.once, fun i y bi hy hbi => ?_, fun i l k hi hl hil h1 h2 => ?_, fun i l k hi hl h1 h2 => ?_, fun i l k hi hl => hJ.ss i l k (by rw [hlen] at hi; exact hi) (by rw [hlen] at hl; exact hl), fun i y hy hgn => ?_, fun i l y z hil hy hz gy gz => ?_⟩
    · by_cases hij : i = j
      · subst hij
        obtain rfl : x' = y := by
          simp only [setw, List.getElem?_set_self hjl] at hy
          exact Option.some.inj hy
        rw [hg] at hbi
        obtain rfl := Option.some.inj hbi
        simp only [if_true]
        refine ⟨Or.inl hk.mine, hc, hr, fun k h => Or.inr h, hrng, fun g hgg => ?_⟩
        rw [hgot] at hgg
        obtain ⟨g1, g2, g3, g4⟩ := hk.got g hgg
        have n1 : gb i ≠ wb := kind_ne g2 hk.cells (by decide)
        refine ⟨Or.inl g1, (hold _ (lt_of_at g2) n1 (fun e => ?_)).trans g2, row_later g3 (fun k hkk => ?_), fun k h => Or.inl (g4 k h)⟩
        · obtain ⟨cur, hcur⟩ := row_block hk.row e
          exact kind_ne hcur g2 (by decide) rfl
        · obtain ⟨cur, hcur⟩ := row_block g3 hkk
          exact hold k (lt_of_at hcur) (kind_ne hcur hk.cells (by decide)) (fun e => hJ.hs i i k hjl hjl e hkk)
      · have hy' : σ.r[i]? = some y := by
          simp only [setw, List.getElem?_set_ne (Ne.symm hij)] at hy
          exact hy
        have hki := hJ.wk i y bi hy' hbi
        have hil0 : i < σ.r.length := (List.getElem?_eq_some_iff.1 hy').1
        have nb : bi ≠ wb := fun e => hij (nodup_at hJ.once hbi (e ▸ hg))
        simp only [if_neg hij]
        refine ⟨Or.inl hki.mine, (hold bi (lt_of_at hki.cells) nb (fun e => ?_)).trans hki.cells, row_later hki.row (fun k hkk => ?_), fun k h => Or.inl (hki.rown k h), hki.rng, fun g hgg => ?_⟩
        · obtain ⟨cur, hcur⟩ := row_block hk.row e
          exact kind_ne hcur hki.cells (by decide) rfl
        · obtain ⟨cur, hcur⟩ := row_block hki.row hkk
          exact hold k (lt_of_at hcur) (kind_ne hcur hk.cells (by decide)) (fun e => hJ.hh i j k hil0 hjl hij hkk e)
        · obtain ⟨g1, g2, g3, g4⟩ := hki.got g hgg
          refine ⟨Or.inl g1, (hold _ (lt_of_at g2) (kind_ne g2 hk.cells (by decide)) (fun e => ?_)).trans g2, row_later g3 (fun k hkk => ?_), fun k h => Or.inl (g4 k h)⟩
          · obtain ⟨cur, hcur⟩ := row_block hk.row e
            exact kind_ne hcur g2 (by decide) rfl
          · obtain ⟨cur, hcur⟩ := row_block g3 hkk
            exact hold k (lt_of_at hcur) (kind_ne hcur hk.cells (by decide)) (fun e => hJ.hs j i k hjl hil0 e hkk)
    · rw [hlen] at hi hl
      by_cases hij : i = j
      · subst hij
        rw [if_pos rfl] at h1
        rw [if_neg (Ne.symm hil)] at h2
        rcases (ho k h1).1 with e | e
        · exact hJ.hh i l k hi hl hil e h2
        · have := hJ.hlt hl h2
          omega
      · rw [if_neg hij] at h1
        by_cases hlj : l = j
        · subst hlj
          rw [if_pos rfl] at h2
          rcases (ho k h2).1 with e | e
          · exact hJ.hh i l k hi hl hil h1 e
          · have := hJ.hlt hi h1
            omega
        · rw [if_neg hlj] at h2
          exact hJ.hh i l k hi hl hil h1 h2
    · rw [hlen] at hi hl
      by_cases hij : i = j
      · subst hij
        rw [if_pos rfl] at h1
        rcases (ho k h1).1 with e | e
        · exact hJ.hs i l k hi hl e h2
        · have := hJ.slt hl h2
          omega
      · rw [if_neg hij] at h1
        exact hJ.hs i l k hi hl h1 h2
    · obtain ⟨y', h1, h2⟩ := hget i y hy
      exact hJ.sn i y' h1 (h2.trans hgn)
    · obtain ⟨y', h1, h2⟩ := hget i y hy
      obtain ⟨z', h3, h4⟩ := hget l z hz
      exact hJ.gg i l y' z' hil h1 h3 (by rw [h2]; exact gy) (by rw [h4]; exact gz)
  have hres := Inv.rest (S := S8 a b gb) (r' := σ.r.set j x') h hw (fun k hk' => by
    rcases hk' with rfl | hk'
    · exact hk.mine
    · exact hk.rown k hk') (fun k hk' => by
    rcases hk' with hk' | hk'
    · exact ⟨Or.inl hk', Nat.lt_of_lt_of_le (h.owna k hk').2.2 hw.size⟩
    · obtain ⟨h1, h2⟩ := ho k hk'
      rcases h1 with h1 | h1
      · exact ⟨Or.inl (hk.rown k h1), h2⟩
      · exact ⟨Or.inr h1, h2⟩) (fun k hk' => Or.inl hk') ⟨_, _, hW⟩
  exact ⟨hres.1, hres.2.1, hres.2.2, hW⟩
/-- What a worker was told is written. -/
theorem updg {n : Nat} {σ : St (List W8)} {rs : List Value} {L : Lay} {w w' : World} {hv sv : Nat → Value} {gb : Nat → Nat} {j wb : Nat} {x : W8} {g g' : List Int} {sv' : Value} (h : Inv (S8 a b gb) n σ rs L w) (hJ : W8s σ.r L.own L.gh w hv sv gb) (hx : σ.r[j]? = some x) (hg : L.gh[j]? = some wb) (hgx : x.got = some g)
    (hw : Wrote (fun k => k = gb j ∨ (sv j).ownBlock = some k) w w') (hc : w'.heap[gb j]? = some (.cells #[sv'] 32 (0, 0)))
    (hr : w'.ownsRow 0 3 1 sv' g'.length (g'.map (.int .i64))) (ho : ∀ k, sv'.ownBlock = some k → ((sv j).ownBlock = some k ∨ w.heap.size ≤ k) ∧ k < w'.heap.size) :
    Inv (S8 a b gb) n (setw σ j { x with got := some g' }) rs { L with own := fun k => L.own k ∨ sv'.ownBlock = some k } w' ∧ Ext (S8 a b gb) w L w' { L with own := fun k => L.own k ∨ sv'.ownBlock = some k } ∧ Keeps w L w' { L with own := fun k => L.own k ∨ sv'.ownBlock = some k } ∧
      W8s (setw σ j { x with got := some g' }).r (fun k => L.own k ∨ sv'.ownBlock = some k) L.gh w' hv (fun i => if i = j then sv' else sv i) gb := by
  have hk := hJ.wk j x wb hx hg
  obtain ⟨k1, k2, k3, k4⟩ := hk.got g hgx
  have hjl : j < σ.r.length := (List.getElem?_eq_some_iff.1 hx).1
  have hold : ∀ k : Nat, k < w.heap.size → k ≠ gb j → (sv j).ownBlock ≠ some k → w'.heap[k]? = w.heap[k]? := fun k h1 h2 h3 => hw.block k h1 (fun e => by rcases e with e | e; exact h2 e; exact h3 e)
  have hW : W8s (setw σ j { x with got := some g' }).r (fun k => L.own k ∨ sv'.ownBlock = some k) L.gh w' hv (fun i => if i = j then sv' else sv i) gb := by
    have hlen : (setw σ j { x with got := some g' }).r.length = σ.r.length := by simp [setw]
    have hget : ∀ (i : Nat) (y : W8), (setw σ j { x with got := some g' }).r[i]? = some y → ∃ y', σ.r[i]? = some y' ∧ y'.got.isSome = y.got.isSome ∧ (i ≠ j → y' = y) := fun i y hy => by
      by_cases hij : i = j
      · subst hij
        simp only [setw, List.getElem?_set_self hjl] at hy
        obtain rfl := Option.some.inj hy
        exact ⟨x, hx, by rw [hgx]; rfl, fun e => absurd rfl e⟩
      · simp only [setw, List.getElem?_set_ne (Ne.symm hij)] at hy
        exact ⟨y, hy, rfl, fun _ => rfl⟩
    refine ⟨by rw [hJ.len]; simp [setw], hJ.once, fun i y bi hy hbi => ?_, fun i l k hi hl => hJ.hh i l k (by rw [hlen] at hi; exact hi) (by rw [hlen] at hl; exact hl), fun i l k hi hl h1 h2 => ?_, fun i l k hi hl hil h1 h2 => ?_, fun i y hy hgn => ?_, fun i l y z hil hy hz gy gz => ?_⟩
    · by_cases hij : i = j
      · subst hij
        obtain rfl : { x with got := some g' } = y := by
          simp only [setw, List.getElem?_set_self hjl] at hy
          exact Option.some.inj hy
        rw [hg] at hbi
        obtain rfl := Option.some.inj hbi
        simp only [if_true]
        have hcell : w'.heap[wb]? = w.heap[wb]? := hold wb (lt_of_at hk.cells) (kind_ne hk.cells k2 (by decide)) (fun e => by
          obtain ⟨cur, hcur⟩ := row_block k3 e
          exact kind_ne hcur hk.cells (by decide) rfl)
        refine ⟨Or.inl hk.mine, ?_, row_later hk.row (fun k hkk => ?_), fun k h => Or.inl (hk.rown k h), hk.rng, fun gg hgg => ?_⟩
        · rw [hcell, hk.cells]
          simp [gotv, hgx]
        · obtain ⟨cur, hcur⟩ := row_block hk.row hkk
          exact hold k (lt_of_at hcur) (kind_ne hcur k2 (by decide)) (hJ.hs i i k hjl hjl hkk)
        · obtain rfl : g' = gg := by simpa using hgg
          exact ⟨Or.inl k1, hc, hr, fun k h => Or.inr h⟩
      · have hy' : σ.r[i]? = some y := by
          simp only [setw, List.getElem?_set_ne (Ne.symm hij)] at hy
          exact hy
        have hki := hJ.wk i y bi hy' hbi
        have hil0 : i < σ.r.length := (List.getElem?_eq_some_iff.1 hy').1
        simp only [if_neg hij]
        refine ⟨Or.inl hki.mine, (hold bi (lt_of_at hki.cells) (kind_ne hki.cells k2 (by decide)) (fun e => ?_)).trans hki.cells, row_later hki.row (fun k hkk => ?_), fun k h => Or.inl (hki.rown k h), hki.rng, fun gg hgg => ?_⟩
        · obtain ⟨cur, hcur⟩ := row_block k3 e
          exact kind_ne hcur hki.cells (by decide) rfl
        · obtain ⟨cur, hcur⟩ := row_block hki.row hkk
          exact hold k (lt_of_at hcur) (kind_ne hcur k2 (by decide)) (hJ.hs i j k hil0 hjl hkk)
        · obtain ⟨g1, g2, g3, g4⟩ := hki.got gg hgg
          have ng : gb i ≠ gb j := hJ.gg i j y x hij hy' hx (by rw [hgg]; rfl) (by rw [hgx]; rfl)
          refine ⟨Or.inl g1, (hold _ (lt_of_at g2) ng (fun e => ?_)).trans g2, row_later g3 (fun k hkk => ?_), fun k h => Or.inl (g4 k h)⟩
          · obtain ⟨cur, hcur⟩ := row_block k3 e
            exact kind_ne hcur g2 (by decide) rfl
          · obtain ⟨cur, hcur⟩ := row_block g3 hkk
            exact hold k (lt_of_at hcur) (kind_ne hcur k2 (by decide)) (hJ.ss i j k hil0 hjl hij hkk)
    · rw [hlen] at hi hl
      by_cases hlj : l = j
      · subst hlj
        rw [if_pos rfl] at h2
        rcases (ho k h2).1 with e | e
        · exact hJ.hs i l k hi hl h1 e
        · have := hJ.hlt hi h1
          omega
      · rw [if_neg hlj] at h2
        exact hJ.hs i l k hi hl h1 h2
    · rw [hlen] at hi hl
      by_cases hij : i = j
      · subst hij
        rw [if_pos rfl] at h1
        rw [if_neg (Ne.symm hil)] at h2
        rcases (ho k h1).1 with e | e
        · exact hJ.ss i l k hi hl hil e h2
        · have := hJ.slt hl h2
          omega
      · rw [if_neg hij] at h1
        by_cases hlj : l = j
        · subst hlj
          rw [if_pos rfl] at h2
          rcases (ho k h2).1 with e | e
          · exact hJ.ss i l k hi hl hil h1 e
          · have := hJ.slt hi h1
            omega
        · rw [if_neg hlj] at h2
          exact hJ.ss i l k hi hl hil h1 h2
    · obtain ⟨y', h1, h2, h3⟩ := hget i y hy
      have hij : i ≠ j := fun e => by
        subst e
        rw [hx] at h1
        obtain rfl := Option.some.inj h1
        rw [hgx, hgn] at h2
        simp at h2
      rw [if_neg hij]
      rw [← h3 hij] at hgn
      exact hJ.sn i y' h1 hgn
    · obtain ⟨y', h1, h2, _⟩ := hget i y hy
      obtain ⟨z', h3, h4, _⟩ := hget l z hz
      exact hJ.gg i l y' z' hil h1 h3 (by rw [h2]; exact gy) (by rw [h4]; exact gz)
  have hres := Inv.rest (S := S8 a b gb) (r' := σ.r.set j { x with got := some g' }) h hw (fun k hk' => by
    rcases hk' with rfl | hk'
    · exact k1
    · exact k4 k hk') (fun k hk' => by
    rcases hk' with hk' | hk'
    · exact ⟨Or.inl hk', Nat.lt_of_lt_of_le (h.owna k hk').2.2 hw.size⟩
    · obtain ⟨h1, h2⟩ := ho k hk'
      rcases h1 with h1 | h1
      · exact ⟨Or.inl (k4 k h1), h2⟩
      · exact ⟨Or.inr h1, h2⟩) (fun k hk' => Or.inl hk') ⟨_, _, hW⟩
  exact ⟨hres.1, hres.2.1, hres.2.2, hW⟩
end Go.Proofs.Ythllplocbciepaa.Kod.Eight
