/- Work that is cut into steps: blocks that the caller writes between calls; tasks in a slice that grows. -/
import Derived.Test.YthllplocbciepaaCod6
import Derived.Deep.AppendLies
import Derived.Laws.MakeOwn
namespace Go.Proofs.Ythllplocbciepaa.Cod
open Go.RowKit Go.Proofs.Ythllplocbciepaa Go.Proofs.Ythllplocbciepaa.Cell
set_option linter.unusedVariables false
set_option linter.unusedSimpArgs false
variable {S : Sys}

/-- Nothing that was there has turned, but these blocks. -/
structure Wrote (X : Nat → Prop) (w w' : World) : Prop where
  os : w'.os = w.os
  tape : w'.tape = w.tape
  output : w'.output = w.output
  size : w.heap.size ≤ w'.heap.size
  block : ∀ k : Nat, k < w.heap.size → ¬ X k → w'.heap[k]? = w.heap[k]?
theorem Wrote.of_made {X : Nat → Prop} {w w' : World} (h : Made w w') : Wrote X w w' := ⟨h.os, h.tape, h.output, h.size, fun k hk _ => h.block k hk⟩
theorem Wrote.trans {X : Nat → Prop} {u v w : World} (h : Wrote X u v) (k : Wrote X v w) : Wrote X u w :=
  ⟨k.os.trans h.os, k.tape.trans h.tape, k.output.trans h.output, Nat.le_trans h.size k.size, fun i hi hn => (k.block i (Nat.lt_of_lt_of_le hi h.size) hn).trans (h.block i hi hn)⟩
theorem Wrote.mono {X Y : Nat → Prop} {w w' : World} (h : Wrote X w w') (hx : ∀ k, k < w.heap.size → X k → Y k) : Wrote Y w w' := ⟨h.os, h.tape, h.output, h.size, fun k hk hn => h.block k hk (fun e => hn (hx k hk e))⟩
theorem Wrote.of_grown {w w' : World} {row : Option Nat} (h : w.grownBy w' row) : Wrote (fun k => row = some k) w w' := ⟨h.os, h.tape, h.output, h.size, fun k hk hn => h.block k hk (fun e => hn e.symm)⟩
theorem Wrote.of_ext {w w' : World} {L L' : Lay} (e : Ext S w L w' L') : Wrote (Mut S L) w w' := ⟨e.os, e.tape, e.output, e.size, fun k hk hn => (e.block k hk hn).2⟩
theorem Wrote.set (g o : Nat) (w : World) (v : Value) : Wrote (fun k => k = g) w (w.setCell ⟨g, o, none⟩ v) :=
  ⟨rfl, rfl, rfl, by simp [World.setCell], fun k _ hn => Cell.heap_setCell_other _ _ _ _ _ hn⟩
theorem Wrote.below {X : Nat → Prop} {B : Nat} {w w' : World} (h : Wrote X w w') (hX : ∀ k, X k → B ≤ k) (hB : B ≤ w.heap.size) : Below B w w' :=
  ⟨h.os, h.tape, h.output, h.size, fun k hk => h.block k (Nat.lt_of_lt_of_le hk hB) (fun e => by have := hX k e; omega)⟩

/-- The blocks that the caller writes are chosen anew: those that were, or new ones. -/
theorem Inv.rescr {n : Nat} {σ : St S.R} {rs : List Value} {L : Lay} {w w' : World} {X : Nat → Prop} (h : Inv S n σ rs L w) (hw : Wrote L.scr w w') (hX : ∀ k, X k → (L.scr k ∨ w.heap.size ≤ k) ∧ k < w'.heap.size) : Inv S n σ rs { L with scr := X } w' := by
  have hs := hw.size
  have ha := (Array.getElem?_eq_some_iff.1 h.ar.ha).1
  have hb := (Array.getElem?_eq_some_iff.1 h.ar.hb).1
  refine ⟨arena_same h.ar (hw.block _ ha (fun e => (h.scra _ e).1 rfl)) (hw.block _ hb (fun e => (h.scra _ e).2.1 rfl)), h.fuel, h.wide, h.len, h.nts, h.nst, ?_, h.few, h.once, h.tsa, ?_, ?_, ?_⟩
  · intro i t v s h1 h2 h3
    have ht : t ∈ L.ts := List.mem_of_getElem? h1
    exact (hw.block t (h.task_lt ht) (fun e => (h.scra _ e).2.2.1 ht)).trans (h.task i t v s h1 h2 h3)
  · exact fun k hk => ⟨(h.owna k hk).1, (h.owna k hk).2.1, Nat.lt_of_lt_of_le (h.owna k hk).2.2 hs⟩
  · exact S.stable _ _ w w' (fun k hk => hw.block k (h.owna k hk).2.2 (fun e => (h.scra k e).2.2.2.1 hk)) h.rest
  · intro k hk
    obtain ⟨h1, h2⟩ := hX k hk
    rcases h1 with h1 | h1
    · exact ⟨(h.scra k h1).1, (h.scra k h1).2.1, (h.scra k h1).2.2.1, (h.scra k h1).2.2.2.1, h2⟩
    · exact ⟨fun e => by omega, fun e => by omega, fun e => by have := h.task_lt e; omega, fun e => by have := (h.owna k e).2.2; omega, h2⟩
theorem Ext.rescr {w w' : World} {L : Lay} {X : Nat → Prop} (hw : Wrote L.scr w w') (hX : ∀ k, X k → L.scr k ∨ w.heap.size ≤ k) : Ext S w L w' { L with scr := X } :=
  ⟨hw.os, hw.tape, hw.output, hw.size, fun k hk hn => ⟨fun e => by
    rcases e with e | e | e | e | e
    · exact hn (Or.inl e)
    · exact hn (Or.inr (Or.inl e))
    · exact hn (Or.inr (Or.inr (Or.inl e)))
    · exact hn (Or.inr (Or.inr (Or.inr (Or.inl e))))
    · rcases hX k e with e | e
      · exact hn (Or.inr (Or.inr (Or.inr (Or.inr e))))
      · omega, hw.block k hk (fun e => hn (Or.inr (Or.inr (Or.inr (Or.inr e)))))⟩⟩
theorem Ready.rescr {m n : Nat} {M : Mach S} {rs : List Value} {L : Lay} {w w' : World} {X : Nat → Prop} (h : Ready S m n M rs L w) (hw : Wrote L.scr w w') (hX : ∀ k, X k → (L.scr k ∨ w.heap.size ≤ k) ∧ k < w'.heap.size) : Ready S m n M rs { L with scr := X } w' :=
  ⟨h.inv.rescr hw hX, h.len, fun i k v h1 h2 => (h.rep i k v h1 h2).later (Ext.rescr hw (fun k hk => (hX k hk).1))⟩
/-- Blocks that code does not know of. -/
theorem Old.rescr {B : Nat} {L : Lay} {w w' : World} {X : Nat → Prop} (h : Old S B w L) (hw : Wrote L.scr w w') (hX : ∀ k, X k → L.scr k ∨ w.heap.size ≤ k) : Old S B w' { L with scr := X } := h.later (Ext.rescr hw hX)

/-- A row of pointers to tasks. -/
def ptrs (ts : List Nat) : List Value := ts.map fun t => .pointer (some ⟨t, 0, none⟩)
theorem ptrs_snoc (ts : List Nat) (t : Nat) : ptrs ts ++ [.pointer (some ⟨t, 0, none⟩)] = ptrs (ts ++ [t]) := by simp [ptrs]
theorem owns_lies {w : World} {base : Nat} {E : TypeId} {v : Value} {n : Nat} {vs : List Value} {L : Lay} (h : w.ownsRow base E 1 v n vs) (ha : ∀ k, v.ownBlock = some k → ¬ Mut S L k) : ∃ A c, v = .slice A n c ∧ n = vs.length ∧ Lies S w L A vs := by
  obtain ⟨h0, h1⟩ := h
  rcases h1 with ⟨rfl, rfl⟩ | ⟨g, cap, cur, rfl, hb, hg, hn, hc, hs, ht⟩
  · have : vs = [] := List.length_eq_zero_iff.1 (by simpa using h0)
    subst this
    exact ⟨none, 0, rfl, rfl, Lies.nil⟩
  · refine ⟨_, cap, rfl, by omega, Lies.row hg (ha g rfl) fun i v hi => ?_⟩
    rw [← ht, Nat.mul_one] at hi
    rw [List.getElem?_take] at hi
    split at hi
    · simpa using hi
    · simp at hi
theorem tasks_info : (Try.prog.info? 57).map (fun i => (i.zero, i.size, i.bytes)) = some (some (.pointer none), 1, 8) := by kernel_rfl
end Go.Proofs.Ythllplocbciepaa.Cod
