/- Layer 8, StackAlone: what the law does with its own slices within a round. -/
import Derived.Test.YthllplocbciepaaAlone8
namespace Go.Proofs.Ythllplocbciepaa.Kod.Eight
open Go.RowKit Go.Proofs.Ythllplocbciepaa Go.Proofs.Ythllplocbciepaa.Cell Go.Proofs.Ythllplocbciepaa.Wd
set_option linter.unusedVariables false
set_option linter.unusedSimpArgs false

variable {a b B g r tb : Nat} {p : Bool} {s mo2 H2 : List Int} {x : W8} {mv hv : Value} {w0 wr w' : World}
theorem row_dims {w : World} {B' n k c : Nat} {E : TypeId} {A : Option Addr} {vs : List Value} (h : w.ownsRow B' E 1 (.slice A n c) k vs) : n = k ∧ k = vs.length ∧ n ≤ c ∧ c ≤ maxLen := by
  have h0 := h.1
  rcases h.2 with ⟨h1, h2⟩ | ⟨g, cap, cur, h1, h2, h3, h4, h5, h6, h7⟩
  · simp only [Value.slice.injEq] at h1
    omega
  · simp only [Value.slice.injEq] at h1
    omega
theorem Has.made {w : World} {B' : Nat} {Z : List (Option Addr × List Value)} {m2 : List Int} (h : Has w B' Z m2 H2 mv hv) (hl : ∀ k, hv.ownBlock = some k → w'.heap[k]? = w.heap[k]?) : Has w' B' Z m2 H2 mv hv := by
  refine ⟨h.model, ?_⟩
  obtain ⟨h0, h1⟩ := h.hands
  refine ⟨h0, ?_⟩
  rcases h1 with h1 | ⟨g, cap, cur, rfl, hb, hg, hr⟩
  · exact Or.inl h1
  · exact Or.inr ⟨g, cap, cur, rfl, hb, (hl g rfl).trans hg, hr⟩
theorem Alo.later (h : Alo a b B g r s x mv hv w0 wr) (hm : Made wr w') : Alo a b B g r s x mv hv w0 w' := by
  obtain ⟨ks, τ, ts, Z, hG, hf, hr, hw, hgt, hz, hh, hfw⟩ := h.ex
  exact ⟨ks, τ, ts, Z, hG.later hm, hf, hr, hw, hgt, hz, hh.made (fun k hk => (hG.same_made hm).same k hk), hfw⟩
theorem Aft.later (h : Aft a b B g r p s x tb mo2 H2 mv hv w0 wr) (hm : Made wr w') : Aft a b B g r p s x tb mo2 H2 mv hv w0 w' := by
  obtain ⟨ks, k, τ, y, ts, Z, hG, ht, hf, hr, y1, y2, y3, hz, hh, hpt, hpf, hfw⟩ := h.ex
  exact ⟨ks, k, τ, y, ts, Z, hG.later hm, ht, hf, hr, y1, y2, y3, hz, hh.made (fun k hk => (hG.same_made hm).same k hk), hpt, hpf, hfw⟩
/-- The model, as it is read. -/
theorem Aft.model {Am : Option Addr} {nm cm : Nat} (h : Aft a b B g r p s x tb mo2 H2 (.slice Am nm cm) hv w0 wr) : nm = mo2.length ∧ Reads wr Am nm (mo2.map (Value.int .i64)) ∧ nm ≤ cm ∧ B ≤ wr.heap.size := by
  obtain ⟨ks, k, τ, y, ts, Z, hG, ht, hf, hr, y1, y2, y3, hz, hh, hpt, hpf, hfw⟩ := h.ex
  obtain ⟨A, c, e, h1, h2, h3⟩ := hh.model
  simp only [Value.slice.injEq] at e
  obtain ⟨rfl, rfl, rfl⟩ := e
  have := reads_of hG h3
  rw [List.length_map] at this
  exact ⟨rfl, this, h1, hG.bel_le⟩
theorem Aft.hands {Ah : Option Addr} {nh ch : Nat} (h : Aft a b B g r p s x tb mo2 H2 mv (.slice Ah nh ch) w0 wr) : nh = H2.length ∧ nh ≤ ch ∧ wr.ownsRow B 3 1 (.slice Ah nh ch) nh (H2.map (Value.int .i64)) ∧ B ≤ wr.heap.size := by
  obtain ⟨ks, k, τ, y, ts, Z, hG, ht, hf, hr, y1, y2, y3, hz, hh, hpt, hpf, hfw⟩ := h.ex
  obtain ⟨d1, d2, d3, d4⟩ := row_dims hh.hands
  subst d1
  exact ⟨rfl, d3, hh.hands, hG.bel_le⟩
/-- The model is another one, that was just made. -/
theorem Aft.turn {m3 : List Int} {v : Value} (h : Aft a b B g r p s x tb mo2 H2 mv hv w0 wr) (hm : Made wr w') (hrow : w'.ownsRow wr.heap.size 3 1 v m3.length (m3.map (Value.int .i64))) : Aft a b B g r p s x tb m3 H2 v hv w0 w' := by
  obtain ⟨ks, k, τ, y, ts, Z, hG, ht, hf, hr, y1, y2, y3, hz, hh, hpt, hpf, hfw⟩ := h.ex
  obtain ⟨A, c, rfl, h1, h2, h3, hG2⟩ := hG.note hm hrow
  have hh2 := hh.made (w' := w') (fun k hk => (hG.same_made hm).same k hk)
  exact ⟨ks, k, τ, y, ts, _, hG2, ht, hf, hr, y1, y2, y3, List.mem_cons_of_mem _ hz, ⟨⟨A, c, rfl, h2, h3, List.mem_cons_self⟩, hh2.hands⟩, hpt, hpf, hfw⟩
/-- The model is what stands behind its first thing. -/
theorem Aft.tail {i : Int} {t : List Int} {Am : Option Addr} {nm cm : Nat} (h : Aft a b B g r p s x tb (i :: t) H2 (.slice Am nm cm) hv w0 wr) {A' : Option Addr} (hA : t = [] ∨ A' = Am.map (·.add 1)) : Aft a b B g r p s x tb t H2 (.slice A' t.length (cm - 1)) hv w0 wr := by
  obtain ⟨ks, k, τ, y, ts, Z, hG, ht, hf, hr, y1, y2, y3, hz, hh, hpt, hpf, hfw⟩ := h.ex
  obtain ⟨A, c, e, h1, h2, h3⟩ := hh.model
  simp only [Value.slice.injEq] at e
  obtain ⟨rfl, rfl, rfl⟩ := e
  have hG2 := Grp.tail (v := .int .i64 i) (vs := t.map (Value.int .i64)) hG h3 (A' := A') (by
    rcases hA with rfl | rfl
    · exact Or.inl rfl
    · exact Or.inr rfl)
  simp only [List.length_cons] at h1
  exact ⟨ks, k, τ, y, ts, _, hG2, ht, hf, hr, y1, y2, y3, List.mem_cons_of_mem _ hz, ⟨⟨A', cm - 1, rfl, by omega, by omega, List.mem_cons_self⟩, hh.hands⟩, hpt, hpf, hfw⟩
/-- What is in hand has grown. -/
theorem Aft.grow {i : Int} {o : Obj} {hv' : Value} {k' : Nat} (h : Aft a b B g r p s x tb mo2 H2 mv hv w0 wr) (hgrow : (wr.alloc o).grownBy w' hv.ownBlock) (hown : w'.ownsRow B 3 1 hv' k' (H2.map (Value.int .i64) ++ [.int .i64 i])) (hat : hv'.ownBlock = hv.ownBlock ∨ hv'.ownBlock = some (wr.alloc o).heap.size) : Aft a b B g r p s x tb mo2 (H2 ++ [i]) mv hv' w0 w' := by
  obtain ⟨ks, k, τ, y, ts, Z, hG, ht, hf, hr, y1, y2, y3, hz, hh, hpt, hpf, hfw⟩ := h.ex
  have hma : Made wr (wr.alloc o) := (Made.refl _).alloc (Nat.le_refl _) _
  have hw : Wrote (fun q => hv.ownBlock = some q) wr w' := (Wrote.of_made hma).trans (Wrote.of_grown hgrow)
  have hlen : k' = (H2 ++ [i]).length := by have := hown.1; simp at this ⊢; omega
  refine ⟨ks, k, τ, y, ts, Z, hG.rescr (X := fun q => hv'.ownBlock = some q) hw (fun q hq => ⟨?_, (hown.lt q hq).2⟩), ht, hf, hr, y1, y2, y3, hz, ⟨hh.model, ?_⟩, hpt, hpf, hfw⟩
  · rcases hat with hat | hat
    · exact Or.inl (hat.symm.trans hq)
    · right
      have := hat.symm.trans hq
      simp only [World.size_alloc, Option.some.injEq] at this
      omega
  · rw [← hlen]
    simpa using hown
/-- What is in hand is less by the last thing. -/
theorem Aft.cut {Ah : Option Addr} {nh ch : Nat} {i : Int} (h : Aft a b B g r p s x tb mo2 H2 mv (.slice Ah (nh + 1) ch) w0 wr) (hi : H2.getLast? = some i) : Aft a b B g r p s x tb mo2 H2.dropLast mv (.slice Ah nh ch) w0 wr := by
  obtain ⟨ks, k, τ, y, ts, Z, hG, ht, hf, hr, y1, y2, y3, hz, hh, hpt, hpf, hfw⟩ := h.ex
  have hrow := hh.hands
  obtain ⟨d1, d2, d3, d4⟩ := row_dims hrow
  have eo : (Value.slice Ah (nh + 1) ch).ownBlock = (Value.slice Ah nh ch).ownBlock := by cases Ah <;> rfl
  rw [eo] at hG
  refine ⟨ks, k, τ, y, ts, Z, hG, ht, hf, hr, y1, y2, y3, hz, ⟨hh.model, ?_⟩, hpt, hpf, hfw⟩
  rcases hrow.2 with ⟨h1, h2⟩ | ⟨g, cap, cur, h1, h2, h3, h4, h5, h6, h7⟩
  · omega
  · simp only [Value.slice.injEq] at h1
    obtain ⟨rfl, _, rfl⟩ := h1
    refine ⟨by simp, Or.inr ⟨g, ch, cur, ?_, h2, h3, by simp; omega, h5, h6, ?_⟩⟩
    · congr 1
      simp
      omega
    · have e : (H2.map (Value.int .i64)).dropLast = H2.dropLast.map (Value.int .i64) := by rw [List.map_dropLast]
      rw [← e, ← h7]
      simp only [Nat.mul_one, List.length_dropLast]
      rw [List.dropLast_eq_take, List.take_take, List.length_take]
      congr 1
      have := cur.size
      simp at h6 ⊢
      omega
theorem Alo.dims {Am Ah : Option Addr} {nm cm nh ch : Nat} (h : Alo a b B g r s x (.slice Am nm cm) (.slice Ah nh ch) w0 wr) : nm = s.length ∧ nh = x.hands.length ∧ nm + nh ≤ 100 := by
  obtain ⟨ks, τ, ts, Z, hG, hf, hr, hw, hgt, hz, hh, hfw⟩ := h.ex
  obtain ⟨A, c, e, h1, h2, h3⟩ := hh.model
  simp only [Value.slice.injEq] at e
  obtain ⟨rfl, rfl, rfl⟩ := e
  have := (row_dims hh.hands).1
  simp at hfw
  omega
/-- What the worker has, and what the law has, is the same. -/
theorem Alo.same1 {Ah : Option Addr} {nh ch : Nat} (h : Alo a b B g r s x mv (.slice Ah nh ch) w0 wr) : ∃ A c, wr.cell? ⟨g + 1, 0, none⟩ = some (.slice A nh c) ∧
    Hid (Calls Try.prog 33 #[.slice A nh c, .slice Ah nh ch] wr fun e w' => e = .returned (.bool true) ∧ (w'.cell? ⟨g, 0, none⟩ = some (.pointer (some ⟨a, 0, none⟩)) ∧ w'.cell? ⟨g, 1, none⟩ = some (.int .i64 0) ∧ w'.cell? ⟨g, 2, none⟩ = some (.func (.func 76) #[] #[])) ∧ Hid (Alo a b B g r s x mv (.slice Ah nh ch) w0 w')) := by
  have h0 := h
  obtain ⟨ks, τ, ts, Z, hG, hf, hr, hw, hgt, hz, hh, hfw⟩ := h.ex
  have hx : τ.r[0]? = some x := by rw [hr]; rfl
  obtain ⟨A, c, hc, h1, h2, h3⟩ := Grp.hands8 hG (j := 0) rfl hx
  obtain ⟨d1, d2, d3, d4⟩ := row_dims hh.hands
  subst d1
  refine ⟨A, c, hc, ?_⟩
  show Calls _ _ _ _ _
  have hro := reads_own hh.hands
  simp at hfw
  refine (Same_c x.hands A Ah x.hands.length c ch rfl wr (fun k hk => h3.2 k _ (by simp [hk])) (fun k hk => hro.2 k _ (by simp [hk])) (by omega)).mono ?_
  rintro e w2 ⟨rfl, hm⟩
  have h4 := h0.later hm
  exact ⟨rfl, h4.stk, h4⟩
theorem Alo.lists {Am : Option Addr} {nm cm : Nat} (h : Alo a b B g r s x (.slice Am nm cm) hv w0 wr) :
    Calls Try.prog 54 #[stk8 a] wr fun e w' => ∃ A c, e = .returned (.slice A nm c) ∧
      Hid (Calls Try.prog 33 #[.slice A nm c, .slice Am nm cm] w' fun e w2 => e = .returned (.bool true) ∧ Hid (Alo a b B g r s x (.slice Am nm cm) hv w0 w2)) := by
  have h0 := h
  obtain ⟨ks, τ, ts, Z, hG, hf, hr, hw, hgt, hz, hh, hfw⟩ := h.ex
  obtain ⟨A1, c1, e1, h1, h2, h3⟩ := hh.model
  simp only [Value.slice.injEq] at e1
  obtain ⟨rfl, rfl, rfl⟩ := e1
  refine (List_c hG.ar.1 hG.ar.2.1 hf.stk).mono ?_
  rintro e w2 ⟨A, c, rfl, hrow, hm⟩
  refine ⟨A, c, rfl, ?_⟩
  show Calls _ _ _ _ _
  have hro := reads_own hrow
  have hmo := reads_of (hG.later hm) h3
  simp at hfw
  refine (Same_c s A Am s.length c cm rfl w2 (fun k hk => hro.2 k _ (by simp [hk])) (fun k hk => hmo.2 k _ (by simp [hk])) (by omega)).mono ?_
  rintro e w3 ⟨rfl, hm3⟩
  exact ⟨rfl, (h0.later hm).later hm3⟩
/-- What one has, while it is filled. -/
structure H1 (g : Nat) (bb : Bool) (W wr : World) (t : Nat) (hv : Value) : Prop where
  bel : Below (g + 1) W wr
  sz : g + 1 + 1 ≤ wr.heap.size
  wk : wr.heap[g + 1]? = some (.cells #[hv, .pointer none, .bool false, .bool bb, .bool false] 88 (0, 0))
  hr : wr.ownsRow (g + 1 + 1) 3 1 hv t (upto t)
theorem H1.hand {g t : Nat} {bb : Bool} {W wr u : World} {hv hv' : Value} {o : Obj} (h : H1 g bb W wr t hv) (hown : u.ownsRow (g + 1 + 1) 3 1 hv' (t + 1) (upto t ++ [.int .i64 (t : Int)])) (hgrow : (wr.alloc o).grownBy u hv.ownBlock) :
    H1 g bb W (u.setCell ⟨g + 1, 0, none⟩ hv') (t + 1) hv' ∧ u.cell? ⟨g + 1, 0, none⟩ = some hv ∧ u.frozen? ⟨g + 1, 0, none⟩ = false := by
  have hsz := h.sz
  have hus : wr.heap.size + 1 ≤ u.heap.size := by have := hgrow.size; simpa using this
  have old : ∀ k : Nat, k < wr.heap.size → hv.ownBlock ≠ some k → u.heap[k]? = wr.heap[k]? := fun k hk hn => (hgrow.block k (by simp; omega) hn.symm).trans (heap_alloc_old _ _ hk)
  have hlow : ∀ k : Nat, k < g + 1 + 1 → hv.ownBlock ≠ some k := fun k hk e => by have := (rowb_block h.hr e).1; omega
  have hu1 := (old (g + 1) (by omega) (hlow _ (by omega))).trans h.wk
  have set1 : ∀ k : Nat, k ≠ g + 1 → (u.setCell ⟨g + 1, 0, none⟩ hv').heap[k]? = u.heap[k]? := fun k hk => Cell.heap_setCell_other _ _ _ _ _ hk
  refine ⟨⟨⟨?_, ?_, ?_, ?_, fun k hk => ?_⟩, ?_, ?_, ?_⟩, ?_, frozen_of_row _ _ _ _ _ hu1⟩
  · exact hgrow.os.trans h.bel.os
  · exact hgrow.tape.trans h.bel.tape
  · exact hgrow.output.trans h.bel.output
  · have := h.bel.size; simp only [World.setCell]; simp; omega
  · rw [set1 k (by omega), old k (by omega) (hlow k (by omega)), h.bel.block k hk]
  · have : (u.setCell ⟨g + 1, 0, none⟩ hv').heap.size = u.heap.size := by simp [World.setCell]
    omega
  · rw [row_set hu1]
    rfl
  · rw [upto_snoc] at hown
    exact rowb_later hown fun k hk => set1 k (by have := (rowb_block hown hk).1; omega)
  · rw [cell_of_row _ _ _ _ _ _ hu1]
    rfl
theorem H1.start {g : Nat} {bb : Bool} {w : World} (hg : w.heap.size = g + 1) : H1 g bb w (w.alloc (.cells #[.slice none 0 0, .pointer none, .bool false, .bool bb, .bool false] 88)) 0 (.slice none 0 0) := by
  refine ⟨(Below.refl _ _).alloc (by omega) _, by simp only [World.size_alloc]; omega, ?_, World.ownsRow_nil _ _ _ _⟩
  rw [← hg]
  exact heap_alloc_new _ _
/-- The hands' row, as it is read. -/
theorem H1.read {g t : Nat} {bb : Bool} {W wr : World} {hv : Value} (h : H1 g bb W wr t hv) : ∃ A c, hv = .slice A t c ∧ wr.cell? ⟨g + 1, 0, none⟩ = some (.slice A t c) ∧ Reads wr A t (upto t) := by
  have hr := h.hr
  rcases hr.2 with ⟨h1, h2⟩ | ⟨q, cap, cur, h1, _⟩
  · subst h2
    subst h1
    exact ⟨none, 0, rfl, by rw [cell_of_row _ _ _ _ _ _ h.wk]; rfl, reads_own hr⟩
  · subst h1
    exact ⟨_, cap, rfl, by rw [cell_of_row _ _ _ _ _ _ h.wk]; rfl, reads_own hr⟩
/-- One worker, who has the numbers below one. -/
theorem grp_one {a b B k m n : Nat} {bb : Bool} {w0 w wr : World} {hv : Value} (hk : k ≤ 100) (hA : Arena w a b 0 (List.replicate (1 + k) 0)) (hn : n < 4611686018427387904) (h0 : Below B w0 w) (hB : B ≤ a ∧ B ≤ b ∧ B ≤ w.heap.size) (h : H1 w.heap.size bb (w.alloc (.cells (stkcells a).toArray 81)) wr k hv) :
    Grp (S8 a b fun _ => 0) B m n (mk a b (fun _ => 0) [] ⟨0, List.replicate (1 + k) 0, [], [⟨nums k, none, false, bb, false⟩]⟩) [] [w.heap.size + 1] [] [(some ⟨w.heap.size, 0, none⟩, stkcells a)] (fun _ => False) w0 wr := by
  have m1 : Made w (w.alloc (.cells (stkcells a).toArray 81)) := (Made.refl _).alloc (Nat.le_refl _) _
  have hG := grp_begin (m := m) (n := n) (g := w.heap.size) (R := (stkcells a).toArray) (t := 81) hk hA hn m1 h0 hB (Nat.le_refl _) (heap_alloc_new _ _)
  have hm : Made (w.alloc (.cells (stkcells a).toArray 81)) wr := by
    have := h.bel
    refine Below.mono this ?_
    simp only [World.size_alloc]
    omega
  have hrow := h.hr
  exact Grp.worker8 (x := ⟨nums k, none, false, bb, false⟩) hG hm (by simp only [World.size_alloc]; omega) h.wk (by
      have e : (nums k).map (Value.int .i64) = upto k := nums_upto k
      show wr.ownsRow _ _ 1 hv (nums k).length ((nums k).map _)
      rw [e, nums_len]
      simp only [World.size_alloc]
      exact row_mono hrow (by omega)) (fun i hi => by have := nums_rng hi; omega) rfl
/-- StackAlone's rounds begin. -/
theorem Alo.begin {a b B k : Nat} {w0 w wr w' : World} {hv hv' : Value} {o : Obj} (hk : k < 30) (hA : Arena w a b 0 (List.replicate (1 + k) 0)) (h0 : Below B w0 w) (hB : B ≤ a ∧ B ≤ b ∧ B ≤ w.heap.size) (h : H1 w.heap.size true (w.alloc (.cells (stkcells a).toArray 81)) wr k hv)
    (hgrow : (wr.alloc o).grownBy w' (some wr.heap.size)) (hown : w'.ownsRow wr.heap.size 3 1 hv' k (upto k)) : Alo a b B w.heap.size 0 [] (xb k) (.slice none 0 0) hv' w0 w' := by
  have hG := grp_one (a := a) (b := b) (m := 200) (n := 400) (by omega) hA (by omega) h0 hB h
  have hG2 := Grp.given hG (A := none) (vs := []) (fun i v hv => by simp at hv)
  have hma : Made wr (wr.alloc o) := (Made.refl _).alloc (Nat.le_refl _) _
  have hm : Made wr w' := hma.grown hgrow (by simp) (fun j ej => by
    obtain rfl := Option.some.inj ej
    exact Nat.le_refl _)
  have hG4 := hG2.rescr (X := fun q => hv'.ownBlock = some q) (Wrote.of_made hm) (fun q hq => ⟨Or.inr (hown.lt q hq).1, (hown.lt q hq).2⟩)
  refine ⟨[], _, [], _, hG4, fitb hk, rfl, rfl, rfl, by simp, ⟨⟨none, 0, rfl, by simp, by omega, by simp⟩, ?_⟩, ?_⟩
  · show w'.ownsRow B _ 1 hv' (nums k).length ((nums k).map _)
    rw [nums_upto, nums_len]
    exact row_mono hown (by have := hG.bel_le; exact this)
  · show ([] ++ nums k).length ≤ 100
    simp [nums_len]
    omega
end Go.Proofs.Ythllplocbciepaa.Kod.Eight
