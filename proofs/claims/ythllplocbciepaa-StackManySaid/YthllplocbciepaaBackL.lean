/- Layer 8, StackBack: the first loop's memory. -/
import Derived.Test.YthllplocbciepaaRnd8
namespace Go.Proofs.Ythllplocbciepaa.Kod.Eight
open Go.RowKit Go.Proofs.Ythllplocbciepaa Go.Proofs.Ythllplocbciepaa.Cell Go.Proofs.Ythllplocbciepaa.Wd
set_option linter.unusedVariables false
set_option linter.unusedSimpArgs false

/-- The numbers below one. -/
def upto (t : Nat) : List Value := (List.range t).map fun (i : Nat) => Value.int .i64 (i : Int)
theorem upto_snoc (t : Nat) : upto t ++ [.int .i64 (t : Int)] = upto (t + 1) := by simp [upto, List.range_succ]
/-- What one has, what will be put: while both are filled. -/
structure L1 (g : Nat) (W wr : World) (t s : Nat) (pv hv : Value) : Prop where
  bel : Below (g + 1) W wr
  sz : g + 1 + 1 + 1 + 1 ≤ wr.heap.size
  wk : wr.heap[g + 1]? = some (.cells #[hv, .pointer none, .bool false, .bool true, .bool false] 88 (0, 0))
  th : wr.heap[g + 1 + 1 + 1]? = some (.cells #[] 4 (0, 0))
  hr : wr.ownsRow (g + 1 + 1 + 1 + 1) 3 1 hv t (upto t)
  pr : wr.ownsRow (g + 1 + 1) 4 1 pv s (List.replicate s (.bool false))
  pn : pv.ownBlock ≠ some (g + 1 + 1 + 1)
theorem rowb_block {w : World} {B n : Nat} {v : Value} {e : TypeId} {xs : List Value} {k : Nat} (h : w.ownsRow B e 1 v n xs) (hk : v.ownBlock = some k) : B ≤ k ∧ ∃ cur, w.heap[k]? = some (.cells cur e (0, 0)) := by
  obtain ⟨_, h1⟩ := h
  rcases h1 with ⟨rfl, _⟩ | ⟨g, cap, cur, rfl, hb, hg, _⟩
  · simp [Value.ownBlock] at hk
  · obtain rfl : g = k := by simpa [Value.ownBlock] using hk
    exact ⟨hb, cur, hg⟩
theorem rowb_later {w w' : World} {B n : Nat} {v : Value} {e : TypeId} {xs : List Value} (h : w.ownsRow B e 1 v n xs) (hs : ∀ k : Nat, v.ownBlock = some k → w'.heap[k]? = w.heap[k]?) : w'.ownsRow B e 1 v n xs := by
  obtain ⟨h0, h1⟩ := h
  refine ⟨h0, ?_⟩
  rcases h1 with h1 | ⟨g, cap, cur, rfl, hb, hg, hr⟩
  · exact Or.inl h1
  · exact Or.inr ⟨g, cap, cur, rfl, hb, (hs g rfl).trans hg, hr⟩
theorem L1.hand {g t s : Nat} {W wr u : World} {pv hv hv' : Value} {o : Obj} (h : L1 g W wr t s pv hv) (hown : u.ownsRow (g + 1 + 1 + 1 + 1) 3 1 hv' (t + 1) (upto t ++ [.int .i64 (t : Int)])) (hgrow : (wr.alloc o).grownBy u hv.ownBlock) :
    L1 g W (u.setCell ⟨g + 1, 0, none⟩ hv') (t + 1) s pv hv' ∧ u.cell? ⟨g + 1, 0, none⟩ = some hv ∧ u.frozen? ⟨g + 1, 0, none⟩ = false := by
  have hsz := h.sz
  have hus : wr.heap.size + 1 ≤ u.heap.size := by have := hgrow.size; simpa using this
  have old : ∀ k : Nat, k < wr.heap.size → hv.ownBlock ≠ some k → u.heap[k]? = wr.heap[k]? := fun k hk hn => (hgrow.block k (by simp; omega) hn.symm).trans (heap_alloc_old _ _ hk)
  have hlow : ∀ k : Nat, k < g + 1 + 1 + 1 + 1 → hv.ownBlock ≠ some k := fun k hk e => by have := (rowb_block h.hr e).1; omega
  have hu1 := (old (g + 1) (by omega) (hlow _ (by omega))).trans h.wk
  have set1 : ∀ k : Nat, k ≠ g + 1 → (u.setCell ⟨g + 1, 0, none⟩ hv').heap[k]? = u.heap[k]? := fun k hk => Cell.heap_setCell_other _ _ _ _ _ hk
  refine ⟨⟨⟨?_, ?_, ?_, ?_, fun k hk => ?_⟩, ?_, ?_, ?_, ?_, ?_, h.pn⟩, ?_, frozen_of_row _ _ _ _ _ hu1⟩
  · exact hgrow.os.trans h.bel.os
  · exact hgrow.tape.trans h.bel.tape
  · exact hgrow.output.trans h.bel.output
  · have := h.bel.size; simp only [World.setCell]; simp; omega
  · rw [set1 k (by omega), old k (by omega) (hlow k (by omega)), h.bel.block k hk]
  · have : (u.setCell ⟨g + 1, 0, none⟩ hv').heap.size = u.heap.size := by simp [World.setCell]
    omega
  · rw [row_set hu1]
    rfl
  · rw [set1 _ (by omega), old _ (by omega) (hlow _ (by omega))]
    exact h.th
  · rw [upto_snoc] at hown
    exact rowb_later hown fun k hk => set1 k (by have := (rowb_block hown hk).1; omega)
  · refine rowb_later h.pr fun k hk => ?_
    obtain ⟨hb, cur, hc⟩ := rowb_block h.pr hk
    have hk1 : k ≠ g + 1 := by omega
    rw [set1 k hk1, old k (lt_of_at hc) (fun e => ?_)]
    obtain ⟨_, cur2, hc2⟩ := rowb_block h.hr e
    exact kind_ne hc hc2 (by decide) rfl
  · rw [cell_of_row _ _ _ _ _ _ hu1]
    rfl
theorem L1.put {g t s : Nat} {W wr u : World} {pv pv' hv : Value} {o : Obj} (h : L1 g W wr t s pv hv) (hown : u.ownsRow (g + 1 + 1) 4 1 pv' (s + 1) (List.replicate s (.bool false) ++ [.bool false])) (hgrow : (wr.alloc o).grownBy u pv.ownBlock) (hat : pv.ownBlock = pv'.ownBlock ∨ ∀ k, pv'.ownBlock = some k → wr.heap.size ≤ k) : L1 g W u t (s + 1) pv' hv := by
  have hsz := h.sz
  have hus : wr.heap.size + 1 ≤ u.heap.size := by have := hgrow.size; simpa using this
  have old : ∀ k : Nat, k < wr.heap.size → pv.ownBlock ≠ some k → u.heap[k]? = wr.heap[k]? := fun k hk hn => (hgrow.block k (by simp; omega) hn.symm).trans (heap_alloc_old _ _ hk)
  have hlow : ∀ k : Nat, k < g + 1 + 1 → pv.ownBlock ≠ some k := fun k hk e => by have := (rowb_block h.pr e).1; omega
  refine ⟨⟨hgrow.os.trans h.bel.os, hgrow.tape.trans h.bel.tape, hgrow.output.trans h.bel.output, by have := h.bel.size; omega, fun k hk => ?_⟩, by omega, ?_, ?_, ?_, ?_, fun e => ?_⟩
  · rw [old k (by omega) (hlow k (by omega)), h.bel.block k hk]
  · rw [old _ (by omega) (hlow _ (by omega))]; exact h.wk
  · rw [old _ (by omega) h.pn]; exact h.th
  · refine rowb_later h.hr fun k hk => ?_
    obtain ⟨hb, cur, hc⟩ := rowb_block h.hr hk
    refine old k (lt_of_at hc) (fun e => ?_)
    obtain ⟨_, cur2, hc2⟩ := rowb_block h.pr e
    exact kind_ne hc hc2 (by decide) rfl
  · rw [← List.replicate_succ'] at hown
    exact hown
  · rcases hat with hat | hat
    · rw [← hat] at e
      exact h.pn e
    · have := hat _ e
      omega
/-- What is there to be taken is filled. -/
structure L2 (g : Nat) (W wr : World) (t s u : Nat) (pv tv hv : Value) : Prop where
  bel : Below (g + 1) W wr
  sz : g + 1 + 1 + 1 + 1 ≤ wr.heap.size
  wk : wr.heap[g + 1]? = some (.cells #[hv, .pointer none, .bool false, .bool true, .bool false] 88 (0, 0))
  hr : wr.ownsRow (g + 1 + 1 + 1 + 1) 3 1 hv t (upto t)
  pr : wr.ownsRow (g + 1 + 1) 4 1 pv s (List.replicate s (.bool false))
  tr : wr.ownsRow (g + 1 + 1 + 1) 4 1 tv u (List.replicate u (.bool true))
  pt : ∀ k, pv.ownBlock = some k → tv.ownBlock ≠ some k
theorem L1.next {g t s : Nat} {W wr : World} {pv hv : Value} (h : L1 g W wr t s pv hv) : L2 g W wr t s 0 pv (.slice (some ⟨g + 1 + 1 + 1, 0, none⟩) 0 0) hv :=
  ⟨h.bel, h.sz, h.wk, h.hr, h.pr, ⟨rfl, Or.inr ⟨_, 0, #[], rfl, Nat.le_refl _, h.th, Nat.le_refl _, by unfold maxLen; omega, rfl, rfl⟩⟩, fun k hk e => by
    obtain rfl : g + 1 + 1 + 1 = k := by simpa [Value.ownBlock] using e
    exact h.pn hk⟩
theorem L2.take {g t s u : Nat} {W wr v : World} {pv tv tv' hv : Value} {o : Obj} (h : L2 g W wr t s u pv tv hv) (hown : v.ownsRow (g + 1 + 1 + 1) 4 1 tv' (u + 1) (List.replicate u (.bool true) ++ [.bool true])) (hgrow : (wr.alloc o).grownBy v tv.ownBlock) (hat : tv.ownBlock = tv'.ownBlock ∨ ∀ k, tv'.ownBlock = some k → wr.heap.size ≤ k) : L2 g W v t s (u + 1) pv tv' hv := by
  have hsz := h.sz
  have hus : wr.heap.size + 1 ≤ v.heap.size := by have := hgrow.size; simpa using this
  have old : ∀ k : Nat, k < wr.heap.size → tv.ownBlock ≠ some k → v.heap[k]? = wr.heap[k]? := fun k hk hn => (hgrow.block k (by simp; omega) hn.symm).trans (heap_alloc_old _ _ hk)
  have hlow : ∀ k : Nat, k < g + 1 + 1 + 1 → tv.ownBlock ≠ some k := fun k hk e => by have := (rowb_block h.tr e).1; omega
  refine ⟨⟨hgrow.os.trans h.bel.os, hgrow.tape.trans h.bel.tape, hgrow.output.trans h.bel.output, by have := h.bel.size; omega, fun k hk => ?_⟩, by omega, ?_, ?_, ?_, ?_, fun k hk e => ?_⟩
  · rw [old k (by omega) (hlow k (by omega)), h.bel.block k hk]
  · rw [old _ (by omega) (hlow _ (by omega))]; exact h.wk
  · refine rowb_later h.hr fun k hk => ?_
    obtain ⟨hb, cur, hc⟩ := rowb_block h.hr hk
    refine old k (lt_of_at hc) (fun e => ?_)
    obtain ⟨_, cur2, hc2⟩ := rowb_block h.tr e
    exact kind_ne hc hc2 (by decide) rfl
  · refine rowb_later h.pr fun k hk => ?_
    obtain ⟨hb, cur, hc⟩ := rowb_block h.pr hk
    exact old k (lt_of_at hc) (h.pt k hk)
  · rw [← List.replicate_succ'] at hown
    exact hown
  · rcases hat with hat | hat
    · rw [← hat] at e
      exact h.pt k hk e
    · obtain ⟨hb, cur, hc⟩ := rowb_block h.pr hk
      have := lt_of_at hc
      have := hat _ e
      omega
theorem bool_info : (Try.prog.info? 4).map (fun i => (i.zero, i.size, i.bytes)) = some (some (.bool false), 1, 1) := by kernel_rfl
theorem made_bools (n : Nat) : madeCells (Value.bool false).cells n = (List.replicate n (Value.bool false)).toArray := by
  unfold madeCells
  apply Array.ext
  · simp
  · intro k h1 h2
    simp [Value.cells, Nat.mod_one]
theorem make_bools (n : Nat) (h : n ≤ 1048576) (w : World) : (Instr.makeSlice 84 (.int .i64 (n : Int)) (.int .i64 (n : Int))).run Try.prog w =
    .ok (.slice (some ⟨w.heap.size, 0, none⟩) n n) (w.alloc (.cells (List.replicate n (Value.bool false)).toArray 4)) := by
  obtain ⟨i, hi, hq⟩ := Option.map_eq_some_iff.1 bool_info
  simp only [Prod.mk.injEq] at hq
  obtain ⟨hz, hs, hb⟩ := hq
  have := run_makeSlice (P := Try.prog) w 84 4 i _ (by kernel_rfl) hi hz .i64 .i64 n n (by omega) (by omega) (by rw [hs]; simp; omega) (by rw [hb]; omega) (by omega)
  rw [this, hs]
  simp only [Int.toNat_natCast, Nat.mul_one]
  rw [made_bools]
end Go.Proofs.Ythllplocbciepaa.Kod.Eight
