/- Work that is cut into steps: what a value of type step.Code does when it is called, told in plain words: a code's state, and what a step makes of it and of the memory that all share. -/
import Derived.Test.YthllplocbciepaaCell3
import Derived.Shelf.Abstract
namespace Go.Proofs.Ythllplocbciepaa.Cod
open Go.RowKit Go.Proofs.Ythllplocbciepaa Go.Proofs.Ythllplocbciepaa.Cell
set_option linter.unusedVariables false
set_option linter.unusedSimpArgs false

/-- What all share: the arena's count and cells, how many steps each task has done, and what else there is. -/
structure St (R : Type) where
  c : Int
  xs : List Int
  steps : List Nat
  r : R

/-- Where it lies: the tasks' blocks, the blocks of what else there is, and blocks that others write, but code never. -/
structure Lay where
  ts : List Nat
  own : Nat → Prop
  scr : Nat → Prop

/-- What codes are: their states, what a step does, and how the rest lies in memory. -/
structure Sys where
  R : Type
  K : Type
  nil : K → Bool
  next : K → St R → K × St R
  a : Nat
  b : Nat
  J : R → (Nat → Prop) → World → Prop
  stable : ∀ (r : R) (own : Nat → Prop) (w w' : World), (∀ k : Nat, own k → w'.heap[k]? = w.heap[k]?) → J r own w → J r own w'

variable {S : Sys}

/-- The blocks that may turn. -/
def Mut (S : Sys) (L : Lay) (k : Nat) : Prop := k = S.a ∨ k = S.b ∨ k ∈ L.ts ∨ L.own k ∨ L.scr k

/-- A later world: nothing has turned but what may. -/
structure Ext (S : Sys) (w : World) (L : Lay) (w' : World) (L' : Lay) : Prop where
  os : w'.os = w.os
  tape : w'.tape = w.tape
  output : w'.output = w.output
  size : w.heap.size ≤ w'.heap.size
  block : ∀ k : Nat, k < w.heap.size → ¬ Mut S L k → ¬ Mut S L' k ∧ w'.heap[k]? = w.heap[k]?
theorem Ext.refl (w : World) (L : Lay) : Ext S w L w L := ⟨rfl, rfl, rfl, Nat.le_refl _, fun _ _ h => ⟨h, rfl⟩⟩
theorem Ext.trans {u v w : World} {L L' L'' : Lay} (h : Ext S u L v L') (k : Ext S v L' w L'') : Ext S u L w L'' :=
  ⟨k.os.trans h.os, k.tape.trans h.tape, k.output.trans h.output, Nat.le_trans h.size k.size, fun i hi hn =>
    have h1 := h.block i hi hn
    have h2 := k.block i (Nat.lt_of_lt_of_le hi h.size) h1.1
    ⟨h2.1, h2.2.trans h1.2⟩⟩
theorem Ext.of_made {w w' : World} {L : Lay} (h : Made w w') : Ext S w L w' L := ⟨h.os, h.tape, h.output, h.size, fun k hk hn => ⟨hn, h.block k hk⟩⟩
theorem Ext.of_turned {w w' : World} {L : Lay} (h : Turned S.a S.b w w') : Ext S w L w' L :=
  ⟨h.os, h.tape, h.output, by rw [h.size]; exact Nat.le_refl _, fun k hk hn => ⟨hn, h.block k (fun e => hn (Or.inl e)) (fun e => hn (Or.inr (Or.inl e)))⟩⟩

/-- A captured variable's box: one cell, that never turns. -/
structure Box (S : Sys) (w : World) (L : Lay) (b : Nat) (v : Value) : Prop where
  lt : b < w.heap.size
  apart : ¬ Mut S L b
  cell : w.cell? ⟨b, 0, none⟩ = some v
theorem Box.later {w w' : World} {L L' : Lay} {b : Nat} {v : Value} (h : Box S w L b v) (e : Ext S w L w' L') : Box S w' L' b v := by
  have h1 := e.block b h.lt h.apart
  refine ⟨Nat.lt_of_lt_of_le h.lt e.size, h1.1, ?_⟩
  have h2 := h.cell
  unfold World.cell? at h2 ⊢
  simp only at h2 ⊢
  rw [h1.2]
  exact h2

/-- All that holds between two calls; n steps more may still be done. -/
structure Inv (S : Sys) (n : Nat) (σ : St S.R) (rs : List Value) (L : Lay) (w : World) : Prop where
  ar : Arena w S.a S.b σ.c σ.xs
  fuel : σ.c + n < 4611686018427387904
  wide : ∀ x ∈ σ.xs, 0 ≤ x ∧ x < 18446744073709551616
  len : σ.xs.length ≤ 1048576
  nts : L.ts.length = rs.length
  nst : σ.steps.length = rs.length
  task : ∀ (i t : Nat) (v : Value) (s : Nat), L.ts[i]? = some t → rs[i]? = some v → σ.steps[i]? = some s → w.heap[t]? = some (.cells #[v, .int .i64 (s : Int)] 117 (0, 0))
  few : ∀ s ∈ σ.steps, s + n < 4611686018427387904
  once : L.ts.Nodup
  tsa : ∀ t ∈ L.ts, t ≠ S.a ∧ t ≠ S.b ∧ ¬ L.own t
  owna : ∀ k, L.own k → k ≠ S.a ∧ k ≠ S.b ∧ k < w.heap.size
  rest : S.J σ.r L.own w
  scra : ∀ k, L.scr k → k ≠ S.a ∧ k ≠ S.b ∧ k ∉ L.ts ∧ ¬ L.own k ∧ k < w.heap.size

theorem Inv.lower {n m : Nat} {σ : St S.R} {rs : List Value} {L : Lay} {w : World} (h : Inv S n σ rs L w) (hm : m ≤ n) : Inv S m σ rs L w :=
  ⟨h.ar, by have := h.fuel; omega, h.wide, h.len, h.nts, h.nst, h.task, fun s hs => by have := h.few s hs; omega, h.once, h.tsa, h.owna, h.rest, h.scra⟩
theorem Inv.task_lt {n : Nat} {σ : St S.R} {rs : List Value} {L : Lay} {w : World} (h : Inv S n σ rs L w) {t : Nat} (ht : t ∈ L.ts) : t < w.heap.size := by
  obtain ⟨i, hi, he⟩ := List.getElem_of_mem ht
  have h1 : i < rs.length := by rw [← h.nts]; exact hi
  have h2 : i < σ.steps.length := by rw [h.nst]; exact h1
  exact (Array.getElem?_eq_some_iff.1 (h.task i t rs[i] σ.steps[i] (by rw [List.getElem?_eq_getElem hi, he]) (List.getElem?_eq_getElem h1) (List.getElem?_eq_getElem h2))).1
theorem Inv.mut_lt {n : Nat} {σ : St S.R} {rs : List Value} {L : Lay} {w : World} (h : Inv S n σ rs L w) {k : Nat} (hk : Mut S L k) : k < w.heap.size := by
  rcases hk with rfl | rfl | hk | hk | hk
  · exact (Array.getElem?_eq_some_iff.1 h.ar.ha).1
  · exact (Array.getElem?_eq_some_iff.1 h.ar.hb).1
  · exact h.task_lt hk
  · exact (h.owna k hk).2.2
  · exact (h.scra k hk).2.2.2.2
/-- A new block lies apart. -/
theorem Inv.new {n : Nat} {σ : St S.R} {rs : List Value} {L : Lay} {w : World} (h : Inv S n σ rs L w) {k : Nat} (hk : w.heap.size ≤ k) : ¬ Mut S L k := fun e => by have := h.mut_lt e; omega
theorem Inv.later {n : Nat} {σ : St S.R} {rs : List Value} {L : Lay} {w w' : World} (h : Inv S n σ rs L w) (m : Made w w') : Inv S n σ rs L w' :=
  ⟨h.ar.later m, h.fuel, h.wide, h.len, h.nts, h.nst, fun i t v s h1 h2 h3 => (m.block t (h.task_lt (List.mem_of_getElem? h1))).trans (h.task i t v s h1 h2 h3), h.few, h.once, h.tsa,
    fun k hk => ⟨(h.owna k hk).1, (h.owna k hk).2.1, Nat.lt_of_lt_of_le (h.owna k hk).2.2 m.size⟩, S.stable _ _ w w' (fun k hk => m.block k (h.owna k hk).2.2) h.rest,
    fun k hk => ⟨(h.scra k hk).1, (h.scra k hk).2.1, (h.scra k hk).2.2.1, (h.scra k hk).2.2.2.1, Nat.lt_of_lt_of_le (h.scra k hk).2.2.2.2 m.size⟩⟩
/-- The arena has turned, and nothing else. -/
theorem Inv.turn {n : Nat} {σ : St S.R} {rs : List Value} {L : Lay} {w w' : World} (h : Inv S (n + 1) σ rs L w) {c : Int} {xs : List Int} (t : Turned S.a S.b w w') (ha : Arena w' S.a S.b c xs) (hc : c ≤ σ.c + 1) (hw : ∀ x ∈ xs, 0 ≤ x ∧ x < 18446744073709551616) (hl : xs.length = σ.xs.length) :
    Inv S n { σ with c := c, xs := xs } rs L w' :=
  ⟨ha, by have := h.fuel; simp only; omega, hw, by simp only; rw [hl]; exact h.len, h.nts, h.nst, fun i t' v s h1 h2 h3 =>
      have hm := h.tsa t' (List.mem_of_getElem? h1)
      (t.block t' hm.1 hm.2.1).trans (h.task i t' v s h1 h2 h3), fun s hs => by have := h.few s hs; omega, h.once, h.tsa,
    fun k hk => ⟨(h.owna k hk).1, (h.owna k hk).2.1, by rw [t.size]; exact (h.owna k hk).2.2⟩, S.stable _ _ w w' (fun k hk => t.block k (h.owna k hk).1 (h.owna k hk).2.1) h.rest,
    fun k hk => ⟨(h.scra k hk).1, (h.scra k hk).2.1, (h.scra k hk).2.2.1, (h.scra k hk).2.2.2.1, by rw [t.size]; exact (h.scra k hk).2.2.2.2⟩⟩

/-- The tasks are the same, and what others write is untouched. -/
structure Keeps (w : World) (L : Lay) (w' : World) (L' : Lay) : Prop where
  ts : L'.ts = L.ts
  scr : L'.scr = L.scr
  same : ∀ k : Nat, L.scr k → w'.heap[k]? = w.heap[k]?
theorem Keeps.refl (w : World) (L : Lay) : Keeps w L w L := ⟨rfl, rfl, fun _ _ => rfl⟩
theorem Keeps.trans {u v w : World} {L L' L'' : Lay} (h : Keeps u L v L') (k : Keeps v L' w L'') : Keeps u L w L'' :=
  ⟨k.ts.trans h.ts, k.scr.trans h.scr, fun i hi => (k.same i (by rw [h.scr]; exact hi)).trans (h.same i hi)⟩
theorem Inv.keeps_made {n : Nat} {σ : St S.R} {rs : List Value} {L : Lay} {w w' : World} (h : Inv S n σ rs L w) (m : Made w w') : Keeps w L w' L := ⟨rfl, rfl, fun k hk => m.block k (h.scra k hk).2.2.2.2⟩
theorem Inv.keeps_turned {n : Nat} {σ : St S.R} {rs : List Value} {L : Lay} {w w' : World} (h : Inv S n σ rs L w) (t : Turned S.a S.b w w') : Keeps w L w' L := ⟨rfl, rfl, fun k hk => t.block k (h.scra k hk).1 (h.scra k hk).2.1⟩

/-- What a call of code gives: the value of the rest, in a later world. -/
def GivesTo (S : Sys) (rep : S.K → Value → World → Lay → Prop) (n : Nat) (x : S.K × St S.R) (rs : List Value) (L : Lay) (w : World) (e : Ending) (w' : World) : Prop :=
  ∃ v L', e = .returned v ∧ Ext S w L w' L' ∧ Keeps w L w' L' ∧ Inv S n x.2 rs L' w' ∧ rep x.1 v w' L'
/-- A value that is code in this state, for m steps. -/
def Rep (S : Sys) : Nat → S.K → Value → World → Lay → Prop
  | 0, k, v, _, _ => (S.nil k = true ∧ v = .nilFunc) ∨ (S.nil k = false ∧ ∃ f cap, v = .func (.func f) #[] cap ∧ Enters Try.prog f)
  | m + 1, k, v, w, L => (S.nil k = true ∧ v = .nilFunc) ∨ (S.nil k = false ∧ ∃ f cap, v = .func (.func f) #[] cap ∧ Enters Try.prog f ∧ ∀ n w' L' σ rs, Ext S w L w' L' → Inv S (n + 1) σ rs L' w' → Calls Try.prog f cap w' (GivesTo S (Rep S m) n (S.next k σ) rs L' w'))
/-- What a call of code gives, that may do m steps more. -/
def Gives (S : Sys) (m n : Nat) (x : S.K × St S.R) (rs : List Value) (L : Lay) (w : World) (e : Ending) (w' : World) : Prop := GivesTo S (Rep S m) n x rs L w e w'
/-- A value that takes arguments, and goes on for m steps. -/
def Takes (S : Sys) (m : Nat) (args : Array Value) (F : St S.R → S.K × St S.R) (v : Value) (w : World) (L : Lay) : Prop :=
  ∃ f cap, v = .func (.func f) #[] cap ∧ Enters Try.prog f ∧ ∀ n w' L' σ rs, Ext S w L w' L' → Inv S n σ rs L' w' → Calls Try.prog f (args ++ cap) w' (Gives S m n (F σ) rs L' w')
theorem Takes.later {m : Nat} {args : Array Value} {F : St S.R → S.K × St S.R} {v : Value} {w w' : World} {L L' : Lay} (h : Takes S m args F v w L) (e : Ext S w L w' L') : Takes S m args F v w' L' := by
  obtain ⟨f, cap, rfl, hf, hc⟩ := h
  exact ⟨f, cap, rfl, hf, fun n w2 L2 σ rs x i => hc n w2 L2 σ rs (e.trans x) i⟩
theorem Rep.later {m : Nat} {k : S.K} {v : Value} {w w' : World} {L L' : Lay} (h : Rep S m k v w L) (e : Ext S w L w' L') : Rep S m k v w' L' := by
  cases m with
  | zero => exact h
  | succ m =>
    rcases h with h | ⟨h0, f, cap, rfl, hf, hc⟩
    · exact Or.inl h
    · exact Or.inr ⟨h0, f, cap, rfl, hf, fun n w2 L2 σ rs x i => hc n w2 L2 σ rs (e.trans x) i⟩
theorem Rep.none {m : Nat} {k : S.K} {w : World} {L : Lay} (h : S.nil k = true) : Rep S m k .nilFunc w L := by
  cases m with
  | zero => exact Or.inl ⟨h, rfl⟩
  | succ m => exact Or.inl ⟨h, rfl⟩
theorem Rep.shape {m : Nat} {k : S.K} {v : Value} {w : World} {L : Lay} (h : Rep S m k v w L) : (S.nil k = true ∧ v = .nilFunc) ∨ (S.nil k = false ∧ ∃ f cap, v = .func (.func f) #[] cap ∧ Enters Try.prog f) := by
  cases m with
  | zero => exact h
  | succ m =>
    rcases h with h | ⟨h0, f, cap, rfl, hf, _⟩
    · exact Or.inl h
    · exact Or.inr ⟨h0, f, cap, rfl, hf⟩
theorem Rep.lower {m : Nat} : ∀ {k : S.K} {v : Value} {w : World} {L : Lay}, Rep S (m + 1) k v w L → Rep S m k v w L := by
  induction m with
  | zero => exact fun h => h.shape
  | succ m ih =>
    intro k v w L h
    rcases h with h | ⟨h0, f, cap, rfl, hf, hc⟩
    · exact Or.inl h
    · exact Or.inr ⟨h0, f, cap, rfl, hf, fun n w' L' σ rs x i => (hc n w' L' σ rs x i).mono fun e w2 ⟨v, L2, h1, h2, h3, h4, h5⟩ => ⟨v, L2, h1, h2, h3, h4, ih h5⟩⟩
theorem Gives.ext {m n : Nat} {x : S.K × St S.R} {rs : List Value} {L L' : Lay} {w w' : World} (e : Ext S w L w' L') (ht : Keeps w L w' L') {en : Ending} {w2 : World} (h : Gives S m n x rs L' w' en w2) : Gives S m n x rs L w en w2 := by
  obtain ⟨v, L2, h1, h2, h3, h4, h5⟩ := h
  exact ⟨v, L2, h1, e.trans h2, ht.trans h3, h4, h5⟩

/-- Reading a cell. -/
def St.ld {R : Type} (σ : St R) (i : Int) : Int × St R := if h : 0 ≤ i ∧ i.toNat < σ.xs.length then (σ.xs[i.toNat]'h.2, { σ with c := σ.c + 1 }) else (0, σ)
/-- Writing a cell. -/
def St.sto {R : Type} (σ : St R) (i v : Int) : St R := if 0 ≤ i ∧ i.toNat < σ.xs.length then { σ with c := σ.c + 1, xs := σ.xs.set i.toNat v } else σ
/-- Writing a cell, and what it had. -/
def St.swp {R : Type} (σ : St R) (i v : Int) : Int × St R := ((σ.ld i).1, σ.sto i v)
/-- Writing a cell, if it has what is told. -/
def St.cas {R : Type} (σ : St R) (i old v : Int) : Bool × St R :=
  if h : 0 ≤ i ∧ i.toNat < σ.xs.length then (if σ.xs[i.toNat]'h.2 = old then (true, { σ with c := σ.c + 1, xs := σ.xs.set i.toNat v }) else (false, { σ with c := σ.c + 1 })) else (false, σ)
end Go.Proofs.Ythllplocbciepaa.Cod
