/- StepRuns: both runs, and what stands behind them. -/
import Derived.Test.YthllplocbciepaaOne7
import Derived.Test.YthllplocbciepaaRun7b
import Derived.Test.YthllplocbciepaaPcs7b
namespace Go.Proofs.Ythllplocbciepaa.Cod.Seven
open Go.RowKit Go.Proofs.Ythllplocbciepaa Go.Proofs.Ythllplocbciepaa.Cell
set_option linter.unusedVariables false
set_option linter.unusedSimpArgs false
variable {a b sb ns : Nat} {ls : List (List Acc)}

theorem Good.pick {M : Mach (S7 a b sb ns)} (h : Good ls M) (n p : Int) : Good ls (Mach.pick (M, n) p).1 := by
  unfold Mach.pick
  split
  · rename_i hm
    unfold Mach.may at hm
    simp only [Bool.and_eq_true, decide_eq_true_eq, Bool.not_eq_true'] at hm
    obtain ⟨⟨h0, h1⟩, h2⟩ := hm
    have hk : (M.ks.length : Int) = ls.length := by have := h.kl; exact congrArg Nat.cast this
    have hi : p.toNat < ls.length := by rw [hk] at h1; omega
    rw [h.over hi, decide_eq_false_iff_not] at h2
    exact (h.step hi (by omega)).1
  · exact h
theorem Good.foldl : ∀ (ps : List Int) {M : Mach (S7 a b sb ns)} (n : Int), Good ls M → Good ls (ps.foldl Mach.pick (M, n)).1
  | [], M, n, h => h
  | p :: ps, M, n, h => by
    rw [List.foldl_cons]
    exact Good.foldl ps (Mach.pick (M, n) p).2 (h.pick n p)
theorem Good.run {M : Mach (S7 a b sb ns)} (h : Good ls M) (ps : List Int) : Good ls (M.run ps).1 := Good.foldl ps 0 h
theorem tk_at (ls : List (List Acc)) {i : Nat} : ∀ {k : Nat}, i < k → (tk ls k)[i]? = some (i, ls.getD i [])
  | 0, h => by omega
  | k + 1, h => by
    have hl : ∀ k, (tk ls k).length = k := fun k => by
      induction k with
      | zero => rfl
      | succ k ih => simp [tk, ih]
    unfold tk
    by_cases e : i = k
    · subst e
      rw [List.getElem?_append_right (by rw [hl]; exact Nat.le_refl _), hl, Nat.sub_self]
      rfl
    · rw [List.getElem?_append_left (by rw [hl]; omega)]
      exact tk_at ls (by omega)
theorem tk_len (ls : List (List Acc)) (k : Nat) : (tk ls k).length = k := by
  induction k with
  | zero => rfl
  | succ k ih => simp [tk, ih]
theorem getD_zeros {α : Type} {z : α} (n i : Nat) : (List.replicate n z).getD i z = z := by
  rw [List.getD_eq_getElem?_getD, List.getElem?_replicate]
  split <;> rfl
theorem M0_good (hn : ns = ls.length) : Good ls (M0 a b sb ns ls ns) := by
  refine ⟨by rw [← hn]; exact tk_len ls ns, by show (List.replicate ns 0).length = _; rw [List.length_replicate, hn], by show (List.replicate ns (0 : Int)).length = _; rw [List.length_replicate, hn], fun i hi => ?_, by show (4 : Nat) ≤ _; omega, by show (0 : Int) ≤ 0; omega⟩
  have e : (M0 a b sb ns ls ns).σ.steps.getD i 0 = 0 := getD_zeros ns i
  rw [e, List.drop_zero]
  refine ⟨?_, Nat.zero_le _⟩
  have := tk_at ls (i := i) (k := ns) (by omega)
  rw [List.getD_eq_getElem?_getD, List.getElem?_eq_getElem hi] at this
  exact this
theorem mlist_zero {AF : Nat → Option Addr} {CF : Nat → Nat} {steps : List Nat} {sums : List Int} (h1 : ∀ i, steps.getD i 0 = 0) (h2 : ∀ i, sums.getD i 0 = 0) : ∀ k, mlist AF CF ls steps sums k = mlist AF CF ls [] [] k
  | 0 => rfl
  | k + 1 => by
    show mlist AF CF ls steps sums k ++ mcell AF CF ls k (steps.getD k 0) (sums.getD k 0) = mlist AF CF ls [] [] k ++ mcell AF CF ls k (([] : List Nat).getD k 0) (([] : List Int).getD k 0)
    rw [mlist_zero h1 h2 k, h1, h2]
    simp
/-- What stands behind both runs. -/
structure End7 (AF : Nat → Option Addr) (CF : Nat → Nat) (a b sb ns : Nat) (ls : List (List Acc)) (M : Mach (S7 a b sb ns)) (ts : List Nat) (bm : Nat) (A1 A2 G : Option Addr) (c2 : Nat) (w wr : World) : Prop where
  f : F7 M ts wr
  good : Good ls M
  box : wr.heap[bm]? = some (.cells #[.slice A2 4 c2, .int .i64 M.σ.c] 68 (0, 0))
  rd : Rd .u64 wr wr.heap.size A2 M.σ.xs
  rows : 0 < ns → ∃ g, G = some ⟨g, 0, none⟩ ∧ Rows AF CF ls M g wr
  ptr : ∀ (i t : Nat), ts[i]? = some t → ∃ ad : Addr, A1 = some ad ∧ ad.block < wr.heap.size ∧ wr.cell? (ad.add i) = some (.pointer (some ⟨t, 0, none⟩))
  bel : Below w.heap.size w wr
variable {AF : Nat → Option Addr} {CF : Nat → Nat} {M : Mach (S7 a b sb ns)} {ts : List Nat} {bm : Nat} {A1 A2 A' G : Option Addr} {c2 : Nat} {w wr : World}
theorem End7.later {w' : World} (h : End7 AF CF a b sb ns ls M ts bm A1 A2 G c2 w wr) (m : Made wr w') : End7 AF CF a b sb ns ls M ts bm A1 A2 G c2 w w' :=
  ⟨h.f.made m, h.good, (m.block _ (Array.getElem?_eq_some_iff.1 h.box).1).trans h.box, (h.rd.later m).more m.size, fun h0 => by
    obtain ⟨g, h1, h2⟩ := h.rows h0
    obtain ⟨cur, h3, _⟩ := h2.row
    exact ⟨g, h1, h2.same (m.block _ (Array.getElem?_eq_some_iff.1 h3).1)⟩, fun i t ht => by
    obtain ⟨ad, h1, h2, h3⟩ := h.ptr i t ht
    exact ⟨ad, h1, Nat.lt_of_lt_of_le h2 m.size, (m.cell (by rw [add_block]; exact h2)).trans h3⟩, Below.trans h.bel (Below.mono m h.bel.size)⟩
/-- What holds ahead of the run of the tasks: the document's run is done already. -/
structure Mid7 (AF : Nat → Option Addr) (CF : Nat → Nat) (a b sb ns : Nat) (ls : List (List Acc)) (ps : List Int) (M : Mach (S7 a b sb ns)) (ts : List Nat) (bm : Nat) (A1 A2 A' G : Option Addr) (c2 : Nat) (w wr : World) : Prop where
  r : ∃ rs X, Ready (S7 a b sb ns) 250 3000 (M0 a b sb ns ls ns) rs ⟨ts, fun k => k = sb, X⟩ wr ∧ Lies (S7 a b sb ns) wr ⟨ts, fun k => k = sb, X⟩ A1 (ptrs ts) ∧ Lies (S7 a b sb ns) wr ⟨ts, fun k => k = sb, X⟩ A' (ps.map (.int .i64)) ∧ Old (S7 a b sb ns) w.heap.size wr ⟨ts, fun k => k = sb, X⟩ ∧ X bm ∧ (∀ x, 0 < M.σ.xs.length → A2 = some x → X x.block) ∧ (0 < ns → ∀ g, G = some ⟨g, 0, none⟩ → X g)
  good : Good ls M
  box : wr.heap[bm]? = some (.cells #[.slice A2 4 c2, .int .i64 M.σ.c] 68 (0, 0))
  rd : Rd .u64 wr wr.heap.size A2 M.σ.xs
  rows : 0 < ns → ∃ g, G = some ⟨g, 0, none⟩ ∧ Rows AF CF ls M g wr
  bel : Below w.heap.size w wr
theorem Mid7.later {ps : List Int} {w' : World} (h : Mid7 AF CF a b sb ns ls ps M ts bm A1 A2 A' G c2 w wr) (m : Made wr w') : Mid7 AF CF a b sb ns ls ps M ts bm A1 A2 A' G c2 w w' := by
  obtain ⟨rs, X, r1, r2, r3, r4, r5, r6, r7⟩ := h.r
  refine ⟨⟨rs, X, r1.later m, r2.later (Ext.of_made m), r3.later (Ext.of_made m), r4.later (Ext.of_made m), r5, r6, r7⟩, h.good, (m.block _ (Array.getElem?_eq_some_iff.1 h.box).1).trans h.box, (h.rd.later m).more m.size, fun h0 => ?_, Below.trans h.bel (Below.mono m h.bel.size)⟩
  obtain ⟨g, h1, h2⟩ := h.rows h0
  obtain ⟨cur, h3, _⟩ := h2.row
  exact ⟨g, h1, h2.same (m.block _ (Array.getElem?_eq_some_iff.1 h3).1)⟩
theorem Mid7.run {ps : List Int} {q : Int} {N N' c c' : Nat} (h : Mid7 AF CF a b sb ns ls ps M ts bm A1 A2 A' G c2 w wr) (hM : (M0 a b sb ns ls ns).run ps = (M, q)) (hps : ps.length ≤ 200) (hN : Hid (N = ts.length)) (hn : (N : Int) ≤ 9223372036854775807) (hN' : Hid (N' = ps.length)) :
    Calls Try.prog 39 #[.slice A1 N c, .slice A' N' c'] wr fun e w' => e = .returned (.int .i64 q) ∧ End7 AF CF a b sb ns ls M ts bm A1 A2 G c2 w w' := by
  obtain ⟨rs, X, r1, r2, r3, r4, r5, r6, r7⟩ := h.r
  have hr := Run_c (m := 50) (n := 2600) (c := c) (c' := c') ps (r1.lower (by omega) (by omega)) (N := N) (N' := N') hN hN' hn r2 r3
  rw [hM] at hr
  refine hr.mono ?_
  rintro e w' ⟨rs', L', rfl, hx, hk, hr'⟩
  have hF := F7.of_ready hr'
  rw [hk.ts] at hF
  have hs : ∀ k, X k → w'.heap[k]? = wr.heap[k]? := fun k hX => hk.same k hX
  have h2 := r2.later hx
  refine ⟨rfl, hF, h.good, (hs bm r5).trans h.box, fun i hi => ?_, fun h0 => ?_, fun i t ht => ?_, Below.trans h.bel (r4.below hx)⟩
  · obtain ⟨x, k1, k2, k3⟩ := h.rd i hi
    refine ⟨x, k1, Nat.lt_of_lt_of_le k2 hx.size, ?_⟩
    rw [← k3]
    exact World.cell?_of_block (by rw [add_block]; exact hs _ (r6 x (by omega) k1))
  · obtain ⟨g, k1, k2⟩ := h.rows h0
    exact ⟨g, k1, k2.same (hs g (r7 h0 g k1))⟩
  · obtain ⟨ad, k1, k2, k3, k4⟩ := h2 i (.pointer (some ⟨t, 0, none⟩)) (by simp [ptrs, ht])
    exact ⟨ad, k1, k2, k4⟩
/-- From the rows as they were built, by way of the document's run. -/
theorem One.mid {ps : List Int} {ra : Nat} {v1 vm : Value} {rs : List Value} {w1 : World} (h : One AF CF a b sb ns ls bm ra w ns ns v1 vm ts rs wr) (hp : Rd .i64 w w.heap.size A' ps) (hm : Made wr w1) (hg : Good ls M)
    (hrd : Rd .u64 w1 w1.heap.size A2 M.σ.xs) (hrows : 0 < ns → ∃ g, G = some ⟨g, 0, none⟩ ∧ wr.heap.size ≤ g ∧ Rows AF CF ls M g w1) (hA2 : A2 = some ⟨ra, 0, none⟩ ∨ ∃ p : Addr, A2 = some p ∧ wr.heap.size ≤ p.block) :
    ∃ A1 c1, v1 = .slice A1 ns c1 ∧ ts.length = ns ∧ Mid7 AF CF a b sb ns ls ps M ts bm A1 A2 A' G c2 w ((w1.setCell ⟨bm, 0, none⟩ (.slice A2 4 c2)).setCell ⟨bm, 1, none⟩ (.int .i64 M.σ.c)) := by
  have lb := (Array.getElem?_eq_some_iff.1 h.box).1
  have lr := (Array.getElem?_eq_some_iff.1 h.cells).1
  have hms := hm.size
  obtain ⟨X, hX⟩ : ∃ X : Nat → Prop, X = fun j => j = bm ∨ j = ra ∨ (wr.heap.size ≤ j ∧ j < w1.heap.size) := ⟨_, rfl⟩
  have hXi : ∀ j, X j ↔ (j = bm ∨ j = ra ∨ (wr.heap.size ≤ j ∧ j < w1.heap.size)) := fun j => by rw [hX]
  clear hX
  obtain ⟨W, hW⟩ : ∃ W, W = (w1.setCell ⟨bm, 0, none⟩ (.slice A2 4 c2)).setCell ⟨bm, 1, none⟩ (.int .i64 M.σ.c) := ⟨_, rfl⟩
  have wset : Wrote (fun k => k = bm) w1 W := by rw [hW]; exact (Wrote.set _ _ _ _).trans (Wrote.set _ _ _ _)
  have sz : W.heap.size = w1.heap.size := by rw [hW]; simp only [Ref2.size_setCell]
  have o : ∀ k : Nat, k ≠ bm → W.heap[k]? = w1.heap[k]? := fun k h1 => by rw [hW, Cell.heap_setCell_other _ _ _ _ _ h1, Cell.heap_setCell_other _ _ _ _ _ h1]
  have ebox : W.heap[bm]? = some (.cells #[.slice A2 4 c2, .int .i64 M.σ.c] 68 (0, 0)) := by
    rw [hW, heap_setCell_same _ _ _ _ _ _ (heap_setCell_same _ _ _ _ _ _ ((hm.block _ lb).trans h.box))]
    simp
  have ws : Wrote (scr4 v1 vm bm ra) wr W := (Wrote.of_made hm).trans (wset.mono fun k _ hk => Or.inr (Or.inr (Or.inl hk)))
  have wx : Wrote X wr W := (Wrote.of_made hm).trans (wset.mono fun k _ hk => (hXi k).2 (Or.inl hk))
  have xs : ∀ k, X k → (scr4 v1 vm bm ra k ∨ wr.heap.size ≤ k) := fun k hk => by
    rcases (hXi k).1 hk with hk | hk | hk
    · exact Or.inl (Or.inr (Or.inr (Or.inl hk)))
    · exact Or.inl (Or.inr (Or.inr (Or.inr hk)))
    · exact Or.inr hk.1
  have xz : ∀ k, X k → k < W.heap.size := fun k hk => by
    rcases (hXi k).1 hk with hk | hk | hk <;> omega
  rw [← hW]
  have R := h.r1.rescr (X := X) ws (fun k hk => ⟨xs k hk, xz k hk⟩)
  have OW := h.old.rescr (X := X) ws xs
  have O0 := h.old.rescr (X := X) (Wrote.of_made (Made.refl _)) xs
  have hE : Ext (S7 a b sb ns) wr ⟨ts, fun k => k = sb, X⟩ W ⟨ts, fun k => k = sb, X⟩ := Ext.rescr (L := ⟨ts, fun k => k = sb, X⟩) wx (fun k hk => Or.inl hk)
  have hno : ∀ k, v1.ownBlock = some k → ¬ Mut (S7 a b sb ns) ⟨ts, fun k => k = sb, X⟩ k := fun k hk => by
    have h1 := h.r1.inv.scra k (Or.inl hk)
    have h2 := h.apart k hk
    have h3 := (h.o1.lt k hk).2
    have h4 := hXi k
    simp only [S7] at h1
    intro e
    simp [Mut, S7] at e
    rcases e with e | e | e | e | e
    · exact h1.1 e
    · exact h1.2.1 e
    · exact h1.2.2.1 e
    · exact h1.2.2.2.1 e
    · rw [h4] at e
      omega
  obtain ⟨A1, c1, rfl, hl1, L1⟩ := owns_lies (S := S7 a b sb ns) h.o1 hno
  refine ⟨A1, c1, rfl, by rw [hl1]; simp [ptrs], ⟨rs, X, R, L1.later hE, (rd_lies hp h.bel O0).later hE, OW, (hXi bm).2 (Or.inl rfl), fun x h0 hx => ?_, fun h0 g hG => ?_⟩, hg, ebox, fun i hi => ?_, fun h0 => ?_, ?_⟩
  · obtain ⟨x', k1, k2, _⟩ := hrd 0 h0
    rw [hx] at k1
    obtain rfl := Option.some.inj k1
    rcases hA2 with e | ⟨p, e, hp⟩
    · rw [hx] at e
      obtain rfl := Option.some.inj e
      exact (hXi _).2 (Or.inr (Or.inl rfl))
    · rw [hx] at e
      obtain rfl := Option.some.inj e
      exact (hXi _).2 (Or.inr (Or.inr ⟨hp, k2⟩))
  · obtain ⟨g', k1, k2, k3⟩ := hrows h0
    rw [hG] at k1
    have e : g = g' := by simpa using k1
    subst e
    obtain ⟨cur, k4, _⟩ := k3.row
    exact (hXi _).2 (Or.inr (Or.inr ⟨k2, (Array.getElem?_eq_some_iff.1 k4).1⟩))
  · obtain ⟨x, k1, k2, k3⟩ := hrd i hi
    refine ⟨x, k1, by rw [sz]; exact k2, ?_⟩
    rw [← k3]
    refine World.cell?_of_block (o _ ?_)
    rw [add_block]
    rcases hA2 with e | ⟨p, e, hp⟩
    · rw [k1] at e
      obtain rfl := Option.some.inj e
      show ra ≠ bm
      intro e
      have h1 := h.box
      have h2 := h.cells
      rw [e] at h2
      rw [h1] at h2
      simp [row] at h2
    · rw [k1] at e
      obtain rfl := Option.some.inj e
      omega
  · obtain ⟨g, k1, k2, k3⟩ := hrows h0
    exact ⟨g, k1, k3.same (o _ (by omega))⟩
  · exact Below.trans h.bel (h.old.below (Ext.rescr (L := ⟨ts, fun k => k = sb, scr4 (.slice A1 ns c1) vm bm ra⟩) (X := X) ws xs))
theorem step_xlen (M : Mach (S7 a b sb ns)) (i : Nat) : (M.step i).σ.xs.length = M.σ.xs.length := by
  cases hk : (show List K7 from M.ks)[i]? with
  | none =>
    have e1 : M.step i = M := by unfold Mach.step; rw [show M.ks[i]? = none from hk]
    rw [e1]
  | some k =>
    obtain ⟨j, l⟩ := k
    cases l with
    | nil => rw [step_nil hk]
    | cons x l =>
      rw [step_cons hk]
      exact act_len x j { M.σ with steps := M.σ.steps.set i (M.σ.steps.getD i 0 + 1) }
theorem foldl_xlen : ∀ (ps : List Int) (M : Mach (S7 a b sb ns)) (n : Int), (ps.foldl Mach.pick (M, n)).1.σ.xs.length = M.σ.xs.length
  | [], M, n => rfl
  | p :: ps, M, n => by
    rw [List.foldl_cons]
    have h := foldl_xlen ps (Mach.pick (M, n) p).1 (Mach.pick (M, n) p).2
    have e : (Mach.pick (M, n) p).1.σ.xs.length = M.σ.xs.length := by
      unfold Mach.pick
      split
      · exact step_xlen M _
      · rfl
    exact h.trans e
theorem M0_xlen {M1 : Mach (S7 a b sb ns)} {ps : List Int} {q : Int} (h : (M0 a b sb ns ls ns).run ps = (M1, q)) : M1.σ.xs.length = 4 := by
  have := foldl_xlen ps (M0 a b sb ns ls ns) 0
  have e : M1 = ((M0 a b sb ns ls ns).run ps).1 := by rw [h]
  rw [e]
  exact this
/-- What stands at one place. -/
theorem End7.at (h : End7 AF CF a b sb ns ls M ts bm A1 A2 G c2 w wr) {i : Nat} (hi : i < ns) (hts : ts.length = ns) (hn : ns = ls.length) : ∃ (ad : Addr) (p g : Nat) (u : Value) (s m : Nat) (v : Int), A1 = some ad ∧ G = some ⟨g, 0, none⟩ ∧ wr.cell? (ad.add i) = some (.pointer (some ⟨p, 0, none⟩)) ∧
    wr.heap[p]? = some (.cells #[u, .int .i64 (s : Int)] 117 (0, 0)) ∧ Shape (decide (m ≤ s)) u ∧ wr.cell? ⟨g, i * 3, none⟩ = some (.slice (AF i) m (CF i)) ∧ wr.cell? ⟨g, i * 3 + 1, none⟩ = some (.int .i64 (s : Int)) ∧ wr.cell? ⟨g, i * 3 + 2, none⟩ = some (.int .u64 v) ∧ wr.cell? ⟨sb, i, none⟩ = some (.int .u64 v) ∧
    (∃ hl : i < ls.length, m = ls[i].length ∧ s ≤ m) ∧ g < wr.heap.size ∧ sb < wr.heap.size := by
  have hil : i < ls.length := by omega
  have hit : i < ts.length := by omega
  obtain ⟨ad, rfl, _, k2⟩ := h.ptr i _ (List.getElem?_eq_getElem hit)
  obtain ⟨g, rfl, hr⟩ := h.rows (by omega)
  obtain ⟨u, s, k, e1, e2, e3, e4⟩ := h.f.task i _ (List.getElem?_eq_getElem hit)
  obtain ⟨p1, p2⟩ := h.good.pl i hil
  have es : M.σ.steps.getD i 0 = s := by rw [List.getD_eq_getElem?_getD, e3]; rfl
  rw [es] at p1 p2
  obtain ⟨r0, r1, r2, _, r3⟩ := hr.cells hil
  rw [es] at r1
  have ek : k = (i, ls[i].drop s) := Option.some.inj (e2.symm.trans p1)
  subst ek
  have eb : (ls[i].drop s).isEmpty = decide (ls[i].length ≤ s) := by
    by_cases e : ls[i].length ≤ s
    · rw [List.drop_eq_nil_of_le e, decide_eq_true e]; rfl
    · rw [List.drop_eq_getElem_cons (by omega), decide_eq_false e]; rfl
  have l1 : i < M.σ.r.sums.length := by rw [h.f.sl]; exact hi
  have w1 : wr.cell? ⟨sb, i, none⟩ = some (.int .u64 (M.σ.r.sums.getD i 0)) := by
    rw [cell_of_row _ _ _ _ _ _ h.f.row, List.getD_eq_getElem?_getD, List.getElem?_eq_getElem l1]
    exact row_at' l1
  rw [show ((i, ls[i].drop s) : K7).2.isEmpty = _ from eb] at e4
  exact ⟨ad, _, g, u, s, _, _, rfl, rfl, k2, e1, e4, r0, r1, r2, w1, ⟨hil, rfl, p2⟩, r3, (Array.getElem?_eq_some_iff.1 h.f.row).1⟩
theorem End7.cnt (h : End7 AF CF a b sb ns ls M ts bm A1 A2 G c2 w wr) : wr.cell? ⟨bm, 1, none⟩ = some (.int .i64 M.σ.c) := cell_of_row _ _ _ _ _ _ h.box
theorem Mid7.cnt {ps : List Int} (h : Mid7 AF CF a b sb ns ls ps M ts bm A1 A2 A' G c2 w wr) : wr.cell? ⟨bm, 1, none⟩ = some (.int .i64 M.σ.c) := cell_of_row _ _ _ _ _ _ h.box
theorem reads_ownZ {w : World} {B n sz : Nat} {E : TypeId} {v : Value} {vs : List Value} (h : w.ownsRow B E sz v n vs) : ∃ T c, v = .slice T n c ∧ ReadsZ sz w T n vs := by
  obtain ⟨h0, h1⟩ := h
  rcases h1 with ⟨rfl, rfl⟩ | ⟨g, cap, cur, rfl, hb, hg, hn, hc, hs, ht⟩
  · have : vs = [] := List.length_eq_zero_iff.1 (by simpa using h0)
    subst this
    exact ⟨none, 0, rfl, h0, fun j u hu => by simp at hu⟩
  · refine ⟨_, _, rfl, h0, fun j u hu => ⟨_, rfl, ?_⟩⟩
    have e : (⟨g, 0, none⟩ : Addr).add j = ⟨g, j, none⟩ := by unfold Addr.add; split <;> simp_all
    rw [e, cell_of_row _ _ j _ _ _ hg]
    rw [← ht, List.getElem?_take] at hu
    split at hu
    · simpa using hu
    · simp at hu
/-- The document's run, out of the rows as they were built. -/
theorem One.ref {ps : List Int} {ra N' c' : Nat} {v1 vm : Value} {rs : List Value} (h : One AF CF a b sb ns ls bm ra w ns ns v1 vm ts rs wr) (hn : ns = ls.length) (h6 : ns ≤ 6) (hN' : N' = ps.length) (h200 : N' ≤ 200) (hp : Rd .i64 w w.heap.size A' ps) (hls : ∀ i (h : i < ls.length), RdA w w.heap.size (AF i) ls[i] ∧ ls[i].length ≤ 30) :
    ∃ T cT, vm = .slice T ns cT ∧ Calls Try.prog 47 #[.agg #[.slice (some ⟨ra, 0, none⟩) 4 4, .int .i64 0], .slice T ns cT, .slice A' N' c'] wr fun e w' => ∃ A2 c2 G cap, e = .returned (.tuple #[.agg #[.slice A2 4 c2, .int .i64 ((M0 a b sb ns ls ns).run ps).1.σ.c], .slice G ns cap, .int .i64 ((M0 a b sb ns ls ns).run ps).2]) ∧
      Rd .u64 w' w'.heap.size A2 ((M0 a b sb ns ls ns).run ps).1.σ.xs ∧ (0 < ns → ∃ g, G = some ⟨g, 0, none⟩ ∧ wr.heap.size ≤ g ∧ Rows AF CF ls ((M0 a b sb ns ls ns).run ps).1 g w') ∧ (A2 = some ⟨ra, 0, none⟩ ∨ ∃ p : Addr, A2 = some p ∧ wr.heap.size ≤ p.block) ∧ Made wr w' := by
  have hbs := h.bel.size
  have lr := (Array.getElem?_eq_some_iff.1 h.cells).1
  obtain ⟨T, cT, rfl, hz⟩ := reads_ownZ h.om
  refine ⟨T, cT, rfl, ?_⟩
  refine Run_r (M := M0 a b sb ns ls ns) (M0_good hn) (some ⟨ra, 0, none⟩) 4 4 rfl T ns cT hn h6 A' N' c' ps hN' h200 (by show (0 : Int) + 200 < _; omega) wr ?_ (fun x hx => by injection hx with hx; subst hx; exact lr) ?_ (fun i hi => ⟨RdA.more ((hls i hi).1.later h.bel) hbs, (hls i hi).2⟩) ((hp.later h.bel).more hbs)
  · exact Rd.row (xs := List.replicate 4 0) h.cells (fun i hi => row_at' hi) lr
  · have e : mlist AF CF ls (M0 a b sb ns ls ns).σ.steps (M0 a b sb ns ls ns).σ.r.sums ns = mlist AF CF ls [] [] ns := mlist_zero (fun i => getD_zeros ns i) (fun i => getD_zeros ns i) ns
    rw [e]
    exact hz
end Go.Proofs.Ythllplocbciepaa.Cod.Seven
