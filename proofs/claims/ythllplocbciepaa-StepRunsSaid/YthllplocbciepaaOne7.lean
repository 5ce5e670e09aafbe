/- One row of tasks that grows, and beside it the model's. -/
import Derived.Test.YthllplocbciepaaPcs7
import Derived.Test.YthllplocbciepaaRun7m
namespace Go.Proofs.Ythllplocbciepaa.Cod.Seven
open Go.RowKit Go.Proofs.Ythllplocbciepaa Go.Proofs.Ythllplocbciepaa.Cell
set_option linter.unusedVariables false
set_option linter.unusedSimpArgs false

/-- Blocks that the law writes, and that code never does. -/
def scr4 (v1 vm : Value) (bm ra : Nat) (j : Nat) : Prop := v1.ownBlock = some j ∨ vm.ownBlock = some j ∨ j = bm ∨ j = ra
/-- A row of k1 tasks, and k2 of the model's. -/
structure One (AF : Nat → Option Addr) (CF : Nat → Nat) (a b sb ns : Nat) (ls : List (List Acc)) (bm ra : Nat) (w : World) (k1 k2 : Nat) (v1 vm : Value) (ts : List Nat) (rs : List Value) (wr : World) : Prop where
  r1 : Ready (S7 a b sb ns) 250 3000 ⟨tk ls k1, ⟨0, [0, 0, 0, 0], List.replicate k1 0, ⟨List.replicate ns 0, []⟩⟩⟩ rs ⟨ts, fun k => k = sb, scr4 v1 vm bm ra⟩ wr
  o1 : wr.ownsRow w.heap.size 57 1 v1 k1 (ptrs ts)
  om : wr.ownsRow w.heap.size 73 3 vm k2 (mlist AF CF ls [] [] k2)
  apart : ∀ j, v1.ownBlock = some j → vm.ownBlock ≠ some j ∧ j ≠ bm ∧ j ≠ ra
  apm : ∀ j, vm.ownBlock = some j → j ≠ bm ∧ j ≠ ra
  box : wr.heap[bm]? = some (.cells #[.slice (some ⟨ra, 0, none⟩) 4 4, .int .i64 0] 68 (0, 0))
  cells : wr.heap[ra]? = some (.cells (row (List.replicate 4 0)) 22 (0, 0))
  lo : w.heap.size ≤ bm ∧ w.heap.size ≤ ra
  bel : Below w.heap.size w wr
  old : Old (S7 a b sb ns) w.heap.size wr ⟨ts, fun k => k = sb, scr4 v1 vm bm ra⟩
variable {AF : Nat → Option Addr} {CF : Nat → Nat} {a b sb ns : Nat} {ls : List (List Acc)} {bm ra : Nat} {w : World} {k1 k2 : Nat} {v1 vm : Value} {ts : List Nat} {rs : List Value} {wr : World}
theorem own_madeZ {w w' : World} {base : Nat} {E : TypeId} {sz n : Nat} {v : Value} {xs : List Value} (h : w.ownsRow base E sz v n xs) (m : Made w w') : w'.ownsRow base E sz v n xs := own_made h m
theorem One.more (h : One AF CF a b sb ns ls bm ra w k1 k2 v1 vm ts rs wr) {w1 w4 : World} {v : Value} (hm : Made wr w1) (hr : Rep (S7 a b sb ns) 250 (k1, ls.getD k1 []) v w1 ⟨ts, fun k => k = sb, scr4 v1 vm bm ra⟩)
    {g cap : Nat} {o : Obj} (hown : w4.ownsRow w.heap.size 57 1 (.slice (some ⟨g, 0, none⟩) (k1 + 1) cap) (k1 + 1) (ptrs ts ++ [.pointer (some ⟨w1.heap.size, 0, none⟩)]))
    (hg : ((w1.alloc (.cells #[v, .int .i64 0] 117)).alloc o).grownBy w4 v1.ownBlock) (hb : v1.ownBlock = some g ∨ g = w1.heap.size + 1 + 1) (hgl : g < w4.heap.size) :
    One AF CF a b sb ns ls bm ra w (k1 + 1) k2 (.slice (some ⟨g, 0, none⟩) (k1 + 1) cap) vm (ts ++ [w1.heap.size]) (rs ++ [v]) w4 := by
  have hm2 : Made w1 (w1.alloc (.cells #[v, .int .i64 0] 117)) := (Made.refl _).alloc (Nat.le_refl _) _
  have hm3 : Made (w1.alloc (.cells #[v, .int .i64 0] 117)) ((w1.alloc (.cells #[v, .int .i64 0] 117)).alloc o) := (Made.refl _).alloc (Nat.le_refl _) _
  have hm13 := Made.trans hm (Made.trans hm2 hm3)
  have hs := hg.size
  simp only [World.size_alloc] at hs
  have hms := hm.size
  have e1 : Wrote (scr4 v1 vm bm ra) ((w1.alloc (.cells #[v, .int .i64 0] 117))) w4 := (Wrote.of_made hm3).trans ((Wrote.of_grown hg).mono fun k _ hk => Or.inl hk)
  have l1 : ∀ j, v1.ownBlock = some j → w.heap.size ≤ j ∧ j < wr.heap.size := h.o1.lt
  have l2 : ∀ j, vm.ownBlock = some j → w.heap.size ≤ j ∧ j < wr.heap.size := h.om.lt
  have lb := (Array.getElem?_eq_some_iff.1 h.box).1
  have lr := (Array.getElem?_eq_some_iff.1 h.cells).1
  have x1 : ∀ k, scr4 (.slice (some ⟨g, 0, none⟩) (k1 + 1) cap) vm bm ra k → (scr4 v1 vm bm ra k ∨ w1.heap.size + 1 ≤ k) ∧ k < w4.heap.size := by
    rintro k (hk | hk | hk | hk)
    · obtain rfl : g = k := by simpa [Value.ownBlock] using hk
      refine ⟨?_, hgl⟩
      rcases hb with hb | hb
      · exact Or.inl (Or.inl hb)
      · exact Or.inr (by omega)
    · have := l2 k hk
      exact ⟨Or.inl (Or.inr (Or.inl hk)), by omega⟩
    · exact ⟨Or.inl (Or.inr (Or.inr (Or.inl hk))), by omega⟩
    · exact ⟨Or.inl (Or.inr (Or.inr (Or.inr hk))), by omega⟩
  have R1 := ((h.r1.later hm).addtask hr).rescr (X := scr4 (.slice (some ⟨g, 0, none⟩) (k1 + 1) cap) vm bm ra) e1 (fun k hk => by simp only [World.size_alloc]; exact x1 k hk)
  have hne : ∀ k, k < wr.heap.size → v1.ownBlock ≠ some k → w4.heap[k]? = wr.heap[k]? := fun k hk hn => (hg.block k (by simp only [World.size_alloc]; omega) (fun e => hn e.symm)).trans (hm13.block k hk)
  refine ⟨?_, by rw [← ptrs_snoc]; exact hown, (own_made h.om hm13).kept hg ?_, ?_, h.apm, ?_, ?_, h.lo, ?_, ?_⟩
  · have e : List.replicate (k1 + 1) 0 = List.replicate k1 0 ++ [0] := List.replicate_succ'
    rw [e]
    exact R1
  · cases hv : vm.ownBlock with
    | none => exact Or.inl rfl
    | some j => exact Or.inr (fun e => (h.apart j e.symm).1 hv)
  · intro j hj
    obtain rfl : g = j := by simpa [Value.ownBlock] using hj
    rcases hb with hb | hb
    · exact h.apart g hb
    · refine ⟨fun hv => ?_, by omega, by omega⟩
      have := (l2 g hv).2
      omega
  · rw [hne bm lb (fun e => (h.apart bm e).2.1 rfl)]; exact h.box
  · rw [hne ra lr (fun e => (h.apart ra e).2.2 rfl)]; exact h.cells
  · exact Below.trans h.bel (Below.trans (Below.mono hm13 h.bel.size) ((Wrote.of_grown hg).below (fun k hk => (l1 k hk).1) (by have := h.bel.size; simp only [World.size_alloc]; omega)))
  · exact (((h.old.later (Ext.of_made hm)).later (Ext.addtask v)).rescr (X := scr4 (.slice (some ⟨g, 0, none⟩) (k1 + 1) cap) vm bm ra) e1 (fun k hk => by simp only [World.size_alloc]; exact (x1 k hk).1))
theorem One.model (h : One AF CF a b sb ns ls bm ra w k1 k2 v1 vm ts rs wr) {w4 : World} {o : Obj} {G : Option Addr} {n' cap : Nat} (hown : w4.ownsRow w.heap.size 73 3 (.slice G n' cap) (k2 + 1) (mlist AF CF ls [] [] (k2 + 1)))
    (hg : (wr.alloc o).grownBy w4 vm.ownBlock) (hb : (Value.slice G n' cap).ownBlock = vm.ownBlock ∨ (Value.slice G n' cap).ownBlock = some (wr.heap.size + 1)) :
    One AF CF a b sb ns ls bm ra w k1 (k2 + 1) v1 (.slice G n' cap) ts rs w4 := by
  have hm3 : Made wr (wr.alloc o) := (Made.refl _).alloc (Nat.le_refl _) _
  have hs := hg.size
  simp only [World.size_alloc] at hs
  have l1 : ∀ j, v1.ownBlock = some j → w.heap.size ≤ j ∧ j < wr.heap.size := h.o1.lt
  have l2 : ∀ j, vm.ownBlock = some j → w.heap.size ≤ j ∧ j < wr.heap.size := h.om.lt
  have l3 : ∀ j, (Value.slice G n' cap).ownBlock = some j → w.heap.size ≤ j ∧ j < w4.heap.size := hown.lt
  have lb := (Array.getElem?_eq_some_iff.1 h.box).1
  have lr := (Array.getElem?_eq_some_iff.1 h.cells).1
  have e1 : Wrote (scr4 v1 vm bm ra) wr w4 := (Wrote.of_made hm3).trans ((Wrote.of_grown hg).mono fun k _ hk => Or.inr (Or.inl hk))
  have x1 : ∀ k, scr4 v1 (.slice G n' cap) bm ra k → (scr4 v1 vm bm ra k ∨ wr.heap.size ≤ k) ∧ k < w4.heap.size := by
    rintro k (hk | hk | hk | hk)
    · have := l1 k hk
      exact ⟨Or.inl (Or.inl hk), by omega⟩
    · refine ⟨?_, (l3 k hk).2⟩
      rcases hb with hb | hb
      · exact Or.inl (Or.inr (Or.inl (hb ▸ hk)))
      · rw [hk] at hb
        have : k = wr.heap.size + 1 := Option.some.inj hb
        exact Or.inr (by omega)
    · exact ⟨Or.inl (Or.inr (Or.inr (Or.inl hk))), by omega⟩
    · exact ⟨Or.inl (Or.inr (Or.inr (Or.inr hk))), by omega⟩
  have hne : ∀ k, k < wr.heap.size → vm.ownBlock ≠ some k → w4.heap[k]? = wr.heap[k]? := fun k hk hn => (hg.block k (by simp only [World.size_alloc]; omega) (fun e => hn e.symm)).trans (hm3.block k hk)
  refine ⟨h.r1.rescr (X := scr4 v1 (.slice G n' cap) bm ra) e1 x1, (own_made h.o1 hm3).kept hg ?_, ?_, ?_, ?_, ?_, ?_, h.lo, ?_, h.old.rescr e1 (fun k hk => (x1 k hk).1)⟩
  · cases hv : v1.ownBlock with
    | none => exact Or.inl rfl
    | some j => exact Or.inr (fun e => (h.apart j hv).1 e.symm)
  · have e : n' = k2 + 1 := by
      rcases hown.2 with ⟨e, e'⟩ | ⟨_, _, _, e, _⟩
      · omega
      · simp only [Value.slice.injEq] at e; exact e.2.1
    subst e
    exact hown
  · intro j hj
    refine ⟨fun hv => ?_, (h.apart j hj).2⟩
    rcases hb with hb | hb
    · exact (h.apart j hj).1 (hb ▸ hv)
    · rw [hv] at hb
      have : j = wr.heap.size + 1 := Option.some.inj hb
      have := (l1 j hj).2
      omega
  · intro j hv
    rcases hb with hb | hb
    · exact h.apm j (hb ▸ hv)
    · rw [hv] at hb
      have : j = wr.heap.size + 1 := Option.some.inj hb
      exact ⟨by omega, by omega⟩
  · rw [hne bm lb (fun e => (h.apm bm e).1 rfl)]; exact h.box
  · rw [hne ra lr (fun e => (h.apm ra e).2 rfl)]; exact h.cells
  · exact Below.trans h.bel (Below.trans (Below.mono hm3 h.bel.size) ((Wrote.of_grown hg).below (fun k hk => (l2 k hk).1) (by have := h.bel.size; simp only [World.size_alloc]; omega)))
end Go.Proofs.Ythllplocbciepaa.Cod.Seven
