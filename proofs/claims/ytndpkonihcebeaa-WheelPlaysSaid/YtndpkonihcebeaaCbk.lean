/- Package knelllaw10: pass's callback: the lists that were taken off, ticket by ticket. -/
import Derived.Test.YtndpkonihcebeaaPasD
import Derived.Test.YtndpkonihcebeaaIns4
namespace Go.Proofs.Ytndpkonihcebeaa.Whl
open Go.RowKit Go.Proofs.Ytndpkonihcebeaa Go.Proofs.Ytndpkonihcebeaa.Cell Go.Proofs.Ytndpkonihcebeaa.Seq Go.Proofs.Ytndpkonihcebeaa.Num Go.Proofs.Ytndpkonihcebeaa.SetN Go.Proofs.Ytndpkonihcebeaa.Dig Go.Proofs.Ytndpkonihcebeaa.Bits
set_option linter.unusedVariables false
set_option linter.unusedSimpArgs false
variable {a b B0 bl bs L S B : Nat} {Q : World → Zone → Int → Prop}

/-- A list of tickets, as it hangs together in the cells, from what its head holds. -/
def Chn (L S : Nat) (xs : List Int) : List Nat → Nat → Prop
  | [], h => h = 0
  | t :: r, h => h = t + 1 ∧ t < 100 ∧ lk L S t < xs.length ∧ ∃ h', xs.getD (lk L S t) 0 = (h' : Nat) ∧ Chn L S xs r h'
theorem Chn.unique {xs : List Int} : ∀ {r1 r2 : List Nat} {h : Nat}, Chn L S xs r1 h → Chn L S xs r2 h → r1 = r2
  | [], [], _, _, _ => rfl
  | [], t :: r, h, h1, h2 => by have h1 : h = 0 := h1; have := h2.1; omega
  | t :: r, [], h, h1, h2 => by have h2 : h = 0 := h2; have := h1.1; omega
  | t :: r, t' :: r', h, h1, h2 => by
    have e : t = t' := by have := h1.1; have := h2.1; omega
    subst e
    obtain ⟨x, hx, c1⟩ := h1.2.2.2
    obtain ⟨y, hy, c2⟩ := h2.2.2.2
    have : x = y := by rw [hx] at hy; exact_mod_cast hy
    subst this
    rw [Chn.unique c1 c2]
open Classical in
noncomputable def chLen (L S : Nat) (xs : List Int) (h : Nat) : Nat := if e : ∃ r, Chn L S xs r h then (Classical.choose e).length else 0
theorem chLen_eq {xs : List Int} {r : List Nat} {h : Nat} (hc : Chn L S xs r h) : chLen L S xs h = r.length := by
  have e : ∃ r, Chn L S xs r h := ⟨r, hc⟩
  unfold chLen
  rw [dif_pos e, Chn.unique (Classical.choose_spec e) hc]
/-- The memory while the callback gathers. -/
structure Cb (bo : Nat) (wA wr : World) (v : Value) (o : List Nat) : Prop where
  os : wr.os = wA.os
  tape : wr.tape = wA.tape
  output : wr.output = wA.output
  size : wA.heap.size ≤ wr.heap.size
  block : ∀ k, k < wA.heap.size → k ≠ bo → wr.heap[k]? = wA.heap[k]?
  lt : bo < wA.heap.size
  box : wr.heap[bo]? = some (OS v)
  own : wr.ownsRow wA.heap.size 3 1 v o.length (vals o)
theorem Cb.app {bo t : Nat} {wA wr w5 : World} {v v' : Value} {o : List Nat} {tmp : Obj} (h : Cb bo wA wr v o) (hown : w5.ownsRow wA.heap.size 3 1 v' (o.length + 1) (vals o ++ [.int .i64 (t : Int)])) (hgrow : (wr.alloc tmp).grownBy w5 v.ownBlock) (hsb : v'.ownBlock = v.ownBlock ∨ v'.ownBlock = some (wr.alloc tmp).heap.size) :
    w5.cell? ⟨bo, 0, none⟩ = some v ∧ w5.frozen? ⟨bo, 0, none⟩ = false ∧ Cb bo wA (w5.setCell ⟨bo, 0, none⟩ v') v' (o ++ [t]) := by
  have hge : ∀ k, v.ownBlock = some k → wA.heap.size ≤ k := fun k hk => by
    obtain ⟨_, h0 | ⟨g', cap, cur, e, h2, hc, _⟩⟩ := h.own
    · rw [h0.1] at hk; cases hk
    · rw [e] at hk
      have : g' = k := by simpa [Value.ownBlock] using hk
      exact this ▸ h2
  have hsz := hgrow.size
  rw [World.size_alloc] at hsz hsb
  have hA := h.size
  have hlt := h.lt
  have old : ∀ k, k < wA.heap.size → w5.heap[k]? = wr.heap[k]? := fun k hk => by
    rw [hgrow.block k (by rw [World.size_alloc]; omega) (fun e => by have := hge k e.symm; omega), heap_alloc_old _ _ (by omega)]
  have h5 : w5.heap[bo]? = some (OS v) := (old bo hlt).trans h.box
  have o6 : ∀ k, k ≠ bo → (w5.setCell ⟨bo, 0, none⟩ v').heap[k]? = w5.heap[k]? := fun k hk => Cell.heap_setCell_other _ _ _ _ _ hk
  refine ⟨by rw [cell_of_row _ _ _ _ _ _ h5]; rfl, frozen_of_row _ _ _ _ _ h5, ⟨hgrow.os.trans h.os, hgrow.tape.trans h.tape, hgrow.output.trans h.output, by simp only [World.setCell, Array.size_modify]; omega, fun k hk hne => ?_, hlt, ?_, ?_⟩⟩
  · rw [o6 k hne, old k hk, h.block k hk hne]
  · rw [setCell_eq_setRow _ _ _ _ _ _ _ h5, heap_setRow_same _ _ _ _ _ _ h5]; rfl
  · rw [List.length_append, vals_snoc]
    refine ownsRow_same hown fun g hg => o6 g ?_
    rcases hsb with e | e
    · have := hge g (e ▸ hg); omega
    · rw [e] at hg; have := Option.some.inj hg; omega
end Go.Proofs.Ytndpkonihcebeaa.Whl
