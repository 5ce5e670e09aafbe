/- Two rows of tasks that grow, over two arenas. -/
import Derived.Test.YthllplocbciepaaPure7b
import Derived.Test.YthllplocbciepaaCod7
namespace Go.Proofs.Ythllplocbciepaa.Cod.Seven
open Go.RowKit Go.Proofs.Ythllplocbciepaa Go.Proofs.Ythllplocbciepaa.Cell
set_option linter.unusedVariables false
set_option linter.unusedSimpArgs false

/-- The tasks of these rows of acts, the first k. -/
def tk (ls : List (List Acc)) : Nat → List K7
  | 0 => []
  | k + 1 => tk ls k ++ [(k, ls.getD k [])]
theorem own_made {w w' : World} {base : Nat} {E : TypeId} {sz n : Nat} {v : Value} {xs : List Value} (h : w.ownsRow base E sz v n xs) (m : Made w w') : w'.ownsRow base E sz v n xs := by
  obtain ⟨h0, h1⟩ := h
  refine ⟨h0, ?_⟩
  rcases h1 with h1 | ⟨g, cap, cur, hv, hb, hg, hr⟩
  · exact Or.inl h1
  · exact Or.inr ⟨g, cap, cur, hv, hb, (m.block g (Array.getElem?_eq_some_iff.1 hg).1).trans hg, hr⟩
/-- The blocks of two slices. -/
def two (v1 v2 : Value) (j : Nat) : Prop := v1.ownBlock = some j ∨ v2.ownBlock = some j
/-- Two rows of tasks. -/
structure Pcs (a b sb a' b' sb' ns : Nat) (ls : List (List Acc)) (w : World) (k1 k2 : Nat) (v1 v2 : Value) (ts1 ts2 : List Nat) (rs1 rs2 : List Value) (wr : World) : Prop where
  r1 : Ready (S7 a b sb ns) 250 3000 ⟨tk ls k1, ⟨0, [0, 0, 0, 0], List.replicate k1 0, ⟨List.replicate ns 0, []⟩⟩⟩ rs1 ⟨ts1, fun k => k = sb, two v1 v2⟩ wr
  r2 : Ready (S7 a' b' sb' ns) 250 3000 ⟨tk ls k2, ⟨0, [0, 0, 0, 0], List.replicate k2 0, ⟨List.replicate ns 0, []⟩⟩⟩ rs2 ⟨ts2, fun k => k = sb', fun j => two v1 v2 j ∨ j = a ∨ j = b ∨ j = sb ∨ j ∈ ts1⟩ wr
  o1 : wr.ownsRow w.heap.size 57 1 v1 k1 (ptrs ts1)
  o2 : wr.ownsRow w.heap.size 57 1 v2 k2 (ptrs ts2)
  apart : ∀ j, v1.ownBlock = some j → v2.ownBlock ≠ some j
  bel : Below w.heap.size w wr
  old1 : Old (S7 a b sb ns) w.heap.size wr ⟨ts1, fun k => k = sb, two v1 v2⟩
  old2 : Old (S7 a' b' sb' ns) w.heap.size wr ⟨ts2, fun k => k = sb', fun j => two v1 v2 j ∨ j = a ∨ j = b ∨ j = sb ∨ j ∈ ts1⟩
variable {a b sb a' b' sb' ns : Nat} {ls : List (List Acc)} {w : World} {k1 k2 : Nat} {v1 v2 : Value} {ts1 ts2 : List Nat} {rs1 rs2 : List Value} {wr : World}
theorem Pcs.more1 (h : Pcs a b sb a' b' sb' ns ls w k1 k2 v1 v2 ts1 ts2 rs1 rs2 wr) {w1 w4 : World} {v : Value} (hm : Made wr w1) (hr : Rep (S7 a b sb ns) 250 (k1, ls.getD k1 []) v w1 ⟨ts1, fun k => k = sb, two v1 v2⟩)
    {g cap : Nat} {o : Obj} (hown : w4.ownsRow w.heap.size 57 1 (.slice (some ⟨g, 0, none⟩) (k1 + 1) cap) (k1 + 1) (ptrs ts1 ++ [.pointer (some ⟨w1.heap.size, 0, none⟩)]))
    (hg : ((w1.alloc (.cells #[v, .int .i64 0] 117)).alloc o).grownBy w4 v1.ownBlock) (hb : v1.ownBlock = some g ∨ g = w1.heap.size + 1 + 1) (hgl : g < w4.heap.size) :
    Pcs a b sb a' b' sb' ns ls w (k1 + 1) k2 (.slice (some ⟨g, 0, none⟩) (k1 + 1) cap) v2 (ts1 ++ [w1.heap.size]) ts2 (rs1 ++ [v]) rs2 w4 := by
  have hm2 : Made w1 (w1.alloc (.cells #[v, .int .i64 0] 117)) := (Made.refl _).alloc (Nat.le_refl _) _
  have hm3 : Made (w1.alloc (.cells #[v, .int .i64 0] 117)) ((w1.alloc (.cells #[v, .int .i64 0] 117)).alloc o) := (Made.refl _).alloc (Nat.le_refl _) _
  have hm13 := Made.trans hm (Made.trans hm2 hm3)
  have hs := hg.size
  simp only [World.size_alloc] at hs
  have hms := hm.size
  have e1 : Wrote (two v1 v2) ((w1.alloc (.cells #[v, .int .i64 0] 117))) w4 := (Wrote.of_made hm3).trans ((Wrote.of_grown hg).mono fun k _ hk => Or.inl hk)
  have e2 : Wrote (two v1 v2) wr w4 := (Wrote.of_made (Made.trans hm hm2)).trans e1
  have l1 : ∀ j, v1.ownBlock = some j → w.heap.size ≤ j ∧ j < wr.heap.size := h.o1.lt
  have l2 : ∀ j, v2.ownBlock = some j → w.heap.size ≤ j ∧ j < wr.heap.size := h.o2.lt
  have x1 : ∀ k, two (.slice (some ⟨g, 0, none⟩) (k1 + 1) cap) v2 k → (two v1 v2 k ∨ w1.heap.size + 1 ≤ k) ∧ k < w4.heap.size := by
    rintro k (hk | hk)
    · obtain rfl : g = k := by simpa [Value.ownBlock] using hk
      refine ⟨?_, hgl⟩
      rcases hb with hb | hb
      · exact Or.inl (Or.inl hb)
      · exact Or.inr (by omega)
    · have := l2 k hk
      exact ⟨Or.inl (Or.inr hk), by omega⟩
  have R1 := ((h.r1.later hm).addtask hr).rescr (X := two (.slice (some ⟨g, 0, none⟩) (k1 + 1) cap) v2) e1 (fun k hk => by simp only [World.size_alloc]; exact x1 k hk)
  have x2 : ∀ k, (two (.slice (some ⟨g, 0, none⟩) (k1 + 1) cap) v2 k ∨ k = a ∨ k = b ∨ k = sb ∨ k ∈ ts1 ++ [w1.heap.size]) → ((two v1 v2 k ∨ k = a ∨ k = b ∨ k = sb ∨ k ∈ ts1) ∨ wr.heap.size ≤ k) ∧ k < w4.heap.size := by
    intro k hk
    have hold : ∀ k, (two v1 v2 k ∨ k = a ∨ k = b ∨ k = sb ∨ k ∈ ts1) → k < w4.heap.size := fun k hk => by
      have := (h.r2.inv.scra k hk).2.2.2.2
      omega
    rcases hk with hk | hk | hk | hk | hk
    · obtain ⟨h1, h2⟩ := x1 k hk
      rcases h1 with h1 | h1
      · exact ⟨Or.inl (Or.inl h1), h2⟩
      · exact ⟨Or.inr (by omega), h2⟩
    · exact ⟨Or.inl (Or.inr (Or.inl hk)), hold k (Or.inr (Or.inl hk))⟩
    · exact ⟨Or.inl (Or.inr (Or.inr (Or.inl hk))), hold k (Or.inr (Or.inr (Or.inl hk)))⟩
    · exact ⟨Or.inl (Or.inr (Or.inr (Or.inr (Or.inl hk)))), hold k (Or.inr (Or.inr (Or.inr (Or.inl hk))))⟩
    · simp only [List.mem_append, List.mem_singleton] at hk
      rcases hk with hk | hk
      · exact ⟨Or.inl (Or.inr (Or.inr (Or.inr (Or.inr hk)))), hold k (Or.inr (Or.inr (Or.inr (Or.inr hk))))⟩
      · exact ⟨Or.inr (by omega), by omega⟩
  have e3 : Wrote (fun j => two v1 v2 j ∨ j = a ∨ j = b ∨ j = sb ∨ j ∈ ts1) wr w4 := e2.mono fun k _ hk => Or.inl hk
  have R2 := h.r2.rescr (X := fun j => two (.slice (some ⟨g, 0, none⟩) (k1 + 1) cap) v2 j ∨ j = a ∨ j = b ∨ j = sb ∨ j ∈ ts1 ++ [w1.heap.size]) e3 x2
  refine ⟨?_, R2, by rw [← ptrs_snoc]; exact hown, (own_made h.o2 hm13).kept hg ?_, ?_, ?_, ?_, ?_⟩
  · have e : List.replicate (k1 + 1) 0 = List.replicate k1 0 ++ [0] := List.replicate_succ'
    rw [e]
    exact R1
  · cases hv : v2.ownBlock with
    | none => exact Or.inl rfl
    | some j => exact Or.inr (fun e => h.apart j e.symm hv)
  · intro j hj hv
    obtain rfl : g = j := by simpa [Value.ownBlock] using hj
    rcases hb with hb | hb
    · exact h.apart g hb hv
    · have := (l2 g hv).2
      omega
  · exact Below.trans h.bel (Below.trans (Below.mono hm13 h.bel.size) ((Wrote.of_grown hg).below (fun k hk => (l1 k hk).1) (by have := h.bel.size; simp only [World.size_alloc]; omega)))
  · refine (((h.old1.later (Ext.of_made hm)).later (Ext.addtask v)).rescr (X := two (.slice (some ⟨g, 0, none⟩) (k1 + 1) cap) v2) e1 (fun k hk => by simp only [World.size_alloc]; exact (x1 k hk).1))
  · exact h.old2.rescr e3 (fun k hk => (x2 k hk).1)
theorem Pcs.more2 (h : Pcs a b sb a' b' sb' ns ls w k1 k2 v1 v2 ts1 ts2 rs1 rs2 wr) {w1 w4 : World} {v : Value} (hm : Made wr w1) (hr : Rep (S7 a' b' sb' ns) 250 (k2, ls.getD k2 []) v w1 ⟨ts2, fun k => k = sb', fun j => two v1 v2 j ∨ j = a ∨ j = b ∨ j = sb ∨ j ∈ ts1⟩)
    {g cap : Nat} {o : Obj} (hown : w4.ownsRow w.heap.size 57 1 (.slice (some ⟨g, 0, none⟩) (k2 + 1) cap) (k2 + 1) (ptrs ts2 ++ [.pointer (some ⟨w1.heap.size, 0, none⟩)]))
    (hg : ((w1.alloc (.cells #[v, .int .i64 0] 117)).alloc o).grownBy w4 v2.ownBlock) (hb : v2.ownBlock = some g ∨ g = w1.heap.size + 1 + 1) (hgl : g < w4.heap.size) :
    Pcs a b sb a' b' sb' ns ls w k1 (k2 + 1) v1 (.slice (some ⟨g, 0, none⟩) (k2 + 1) cap) ts1 (ts2 ++ [w1.heap.size]) rs1 (rs2 ++ [v]) w4 := by
  have hm2 : Made w1 (w1.alloc (.cells #[v, .int .i64 0] 117)) := (Made.refl _).alloc (Nat.le_refl _) _
  have hm3 : Made (w1.alloc (.cells #[v, .int .i64 0] 117)) ((w1.alloc (.cells #[v, .int .i64 0] 117)).alloc o) := (Made.refl _).alloc (Nat.le_refl _) _
  have hm13 := Made.trans hm (Made.trans hm2 hm3)
  have hs := hg.size
  simp only [World.size_alloc] at hs
  have hms := hm.size
  have e1 : Wrote (two v1 v2) ((w1.alloc (.cells #[v, .int .i64 0] 117))) w4 := (Wrote.of_made hm3).trans ((Wrote.of_grown hg).mono fun k _ hk => Or.inr hk)
  have e2 : Wrote (two v1 v2) wr w4 := (Wrote.of_made (Made.trans hm hm2)).trans e1
  have l1 : ∀ j, v1.ownBlock = some j → w.heap.size ≤ j ∧ j < wr.heap.size := h.o1.lt
  have l2 : ∀ j, v2.ownBlock = some j → w.heap.size ≤ j ∧ j < wr.heap.size := h.o2.lt
  have x1 : ∀ k, two v1 (.slice (some ⟨g, 0, none⟩) (k2 + 1) cap) k → (two v1 v2 k ∨ w1.heap.size + 1 ≤ k) ∧ k < w4.heap.size := by
    rintro k (hk | hk)
    · have := l1 k hk
      exact ⟨Or.inl (Or.inl hk), by omega⟩
    · obtain rfl : g = k := by simpa [Value.ownBlock] using hk
      refine ⟨?_, hgl⟩
      rcases hb with hb | hb
      · exact Or.inl (Or.inr hb)
      · exact Or.inr (by omega)
  have x1w : ∀ k, two v1 (.slice (some ⟨g, 0, none⟩) (k2 + 1) cap) k → (two v1 v2 k ∨ wr.heap.size ≤ k) ∧ k < w4.heap.size := fun k hk => by
    obtain ⟨h1, h2⟩ := x1 k hk
    rcases h1 with h1 | h1
    · exact ⟨Or.inl h1, h2⟩
    · exact ⟨Or.inr (by omega), h2⟩
  have R1 := h.r1.rescr (X := two v1 (.slice (some ⟨g, 0, none⟩) (k2 + 1) cap)) e2 x1w
  have x2 : ∀ k, (two v1 (.slice (some ⟨g, 0, none⟩) (k2 + 1) cap) k ∨ k = a ∨ k = b ∨ k = sb ∨ k ∈ ts1) → ((two v1 v2 k ∨ k = a ∨ k = b ∨ k = sb ∨ k ∈ ts1) ∨ w1.heap.size + 1 ≤ k) ∧ k < w4.heap.size := by
    intro k hk
    rcases hk with hk | hk
    · obtain ⟨h1, h2⟩ := x1 k hk
      rcases h1 with h1 | h1
      · exact ⟨Or.inl (Or.inl h1), h2⟩
      · exact ⟨Or.inr h1, h2⟩
    · have := (h.r2.inv.scra k (Or.inr hk)).2.2.2.2
      exact ⟨Or.inl (Or.inr hk), by omega⟩
  have e3 : Wrote (fun j => two v1 v2 j ∨ j = a ∨ j = b ∨ j = sb ∨ j ∈ ts1) (w1.alloc (.cells #[v, .int .i64 0] 117)) w4 := e1.mono fun k _ hk => Or.inl hk
  have R2 := ((h.r2.later hm).addtask hr).rescr (X := fun j => two v1 (.slice (some ⟨g, 0, none⟩) (k2 + 1) cap) j ∨ j = a ∨ j = b ∨ j = sb ∨ j ∈ ts1) e3 (fun k hk => by simp only [World.size_alloc]; exact x2 k hk)
  refine ⟨R1, ?_, (own_made h.o1 hm13).kept hg ?_, by rw [← ptrs_snoc]; exact hown, ?_, ?_, ?_, ?_⟩
  · have e : List.replicate (k2 + 1) 0 = List.replicate k2 0 ++ [0] := List.replicate_succ'
    rw [e]
    exact R2
  · cases hv : v1.ownBlock with
    | none => exact Or.inl rfl
    | some j => exact Or.inr (fun e => h.apart j hv e.symm)
  · intro j hj hv
    obtain rfl : g = j := by simpa [Value.ownBlock] using hv
    rcases hb with hb | hb
    · exact h.apart g hj hb
    · have := (l1 g hj).2
      omega
  · exact Below.trans h.bel (Below.trans (Below.mono hm13 h.bel.size) ((Wrote.of_grown hg).below (fun k hk => (l2 k hk).1) (by have := h.bel.size; simp only [World.size_alloc]; omega)))
  · exact h.old1.rescr e2 (fun k hk => (x1w k hk).1)
  · refine (((h.old2.later (Ext.of_made hm)).later (Ext.addtask v)).rescr (X := fun j => two v1 (.slice (some ⟨g, 0, none⟩) (k2 + 1) cap) j ∨ j = a ∨ j = b ∨ j = sb ∨ j ∈ ts1) e3 (fun k hk => by simp only [World.size_alloc]; exact (x2 k hk).1))
end Go.Proofs.Ythllplocbciepaa.Cod.Seven
