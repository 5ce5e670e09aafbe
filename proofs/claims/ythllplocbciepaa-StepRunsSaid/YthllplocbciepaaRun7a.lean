/- A run of the document's answer for layer 7: what holds between two picks (plain), and how the model's tasks lie. -/
import Derived.Test.YthllplocbciepaaSim7
import Derived.Test.YthllplocbciepaaAppZ
namespace Go.Proofs.Ythllplocbciepaa.Cod.Seven
open Go.RowKit Go.Proofs.Ythllplocbciepaa Go.Proofs.Ythllplocbciepaa.Cell Go.Proofs.Ythllplocbciepaa.Ref7
set_option linter.unusedVariables false
set_option linter.unusedSimpArgs false
variable {a b sb ns : Nat}

/-- Each task has done a piece of its acts. -/
structure Good (ls : List (List Acc)) (M : Mach (S7 a b sb ns)) : Prop where
  kl : M.ks.length = ls.length
  sl : M.σ.steps.length = ls.length
  ml : M.σ.r.sums.length = ls.length
  pl : ∀ i (h : i < ls.length), M.ks[i]? = some (i, ls[i].drop (M.σ.steps.getD i 0)) ∧ M.σ.steps.getD i 0 ≤ ls[i].length
  xl : M.σ.xs.length ≤ 1048576
  c0 : 0 ≤ M.σ.c
variable {ls : List (List Acc)} {M : Mach (S7 a b sb ns)}
theorem act_sums_at (x : Acc) (i : Nat) (σ : St R7) : ∃ s, (act x i σ).r.sums = σ.r.sums.set i s := by
  have h0 : σ.r.sums = σ.r.sums.set i (σ.r.sums.getD i 0) := by
    by_cases h : i < σ.r.sums.length
    · simp [h]
    · rw [List.set_eq_of_length_le (by omega)]
  unfold act tell St.swp St.cas St.sto St.ld
  repeat' split
  all_goals first | exact ⟨_, rfl⟩ | exact ⟨_, h0⟩
theorem Good.step (h : Good ls M) {i : Nat} (hi : i < ls.length) (hd : M.σ.steps.getD i 0 < ls[i].length) :
    Good ls (M.step i) ∧ (M.step i).σ.steps = M.σ.steps.set i (M.σ.steps.getD i 0 + 1) ∧ (∃ s, (M.step i).σ.r.sums = M.σ.r.sums.set i s) ∧ (M.step i).σ.c ≤ M.σ.c + 1 ∧ (M.step i).σ.xs.length = M.σ.xs.length := by
  have hk := (h.pl i hi).1
  rw [List.drop_eq_getElem_cons hd] at hk
  rw [step_cons hk]
  generalize hx : ls[i][M.σ.steps.getD i 0] = x
  obtain ⟨s, hs⟩ := act_sums_at x i { M.σ with steps := M.σ.steps.set i (M.σ.steps.getD i 0 + 1) }
  have hc := act_c x i { M.σ with steps := M.σ.steps.set i (M.σ.steps.getD i 0 + 1) }
  have hst := act_steps x i { M.σ with steps := M.σ.steps.set i (M.σ.steps.getD i 0 + 1) }
  have hl := act_len x i { M.σ with steps := M.σ.steps.set i (M.σ.steps.getD i 0 + 1) }
  have hn := act_sums x i { M.σ with steps := M.σ.steps.set i (M.σ.steps.getD i 0 + 1) }
  simp only at hs hc hst hl hn
  have h0 := h.c0
  have h1 := h.kl
  have h2 := h.sl
  have h3 := h.ml
  have h4 := h.xl
  refine ⟨⟨(by have e : ((show List K7 from M.ks).set i (i, ls[i].drop (M.σ.steps.getD i 0 + 1))).length = (show List K7 from M.ks).length := List.length_set; exact e.trans h1), by simp only; rw [hst, List.length_set]; exact h2, by simp only; rw [hn]; exact h3, fun j hj => ?_, by simp only; omega, by simp only; omega⟩, hst, ⟨s, hs⟩, hc.2, hl⟩
  simp only
  rw [hst]
  by_cases e : i = j
  · subst e
    have e1 : (M.σ.steps.set i (M.σ.steps.getD i 0 + 1)).getD i 0 = M.σ.steps.getD i 0 + 1 := by
      rw [List.getD_eq_getElem?_getD, List.getElem?_set_self (by omega)]; rfl
    rw [e1]
    exact ⟨List.getElem?_set_self (by omega), by omega⟩
  · have e1 : (M.σ.steps.set i (M.σ.steps.getD i 0 + 1)).getD j 0 = M.σ.steps.getD j 0 := by
      rw [List.getD_eq_getElem?_getD, List.getElem?_set_ne e, ← List.getD_eq_getElem?_getD]
    rw [e1]
    refine ⟨?_, (h.pl j hj).2⟩
    have e9 : ((show List K7 from M.ks).set i (i, ls[i].drop (M.σ.steps.getD i 0 + 1)))[j]? = (show List K7 from M.ks)[j]? := List.getElem?_set_ne e
    exact e9.trans (h.pl j hj).1
theorem Good.over (h : Good ls M) {i : Nat} (hi : i < ls.length) : M.over i = decide (ls[i].length ≤ M.σ.steps.getD i 0) := by
  rw [over_at (h.pl i hi).1]
  have := (h.pl i hi).2
  show (ls[i].drop (M.σ.steps.getD i 0)).isEmpty = _
  by_cases e : ls[i].length ≤ M.σ.steps.getD i 0
  · rw [List.drop_eq_nil_of_le e, decide_eq_true e]; rfl
  · rw [List.drop_eq_getElem_cons (by omega), decide_eq_false e]; rfl
/-- Three cells of a model's task. -/
def mcell (AF : Nat → Option Addr) (CF : Nat → Nat) (ls : List (List Acc)) (i d : Nat) (s : Int) : List Value := [.slice (AF i) (ls.getD i []).length (CF i), .int .i64 (d : Int), .int .u64 s]
/-- The model's tasks, as they lie. -/
structure Rows (AF : Nat → Option Addr) (CF : Nat → Nat) (ls : List (List Acc)) (M : Mach (S7 a b sb ns)) (g : Nat) (w : World) : Prop where
  row : ∃ cur, w.heap[g]? = some (.cells cur 73 (0, 0)) ∧ ∀ i, i < ls.length → ∀ j, j < 3 → cur[i * 3 + j]? = (mcell AF CF ls i (M.σ.steps.getD i 0) (M.σ.r.sums.getD i 0))[j]?
variable {AF : Nat → Option Addr} {CF : Nat → Nat} {g : Nat} {w : World}
theorem Rows.cells (h : Rows AF CF ls M g w) {i : Nat} (hi : i < ls.length) : w.cell? ⟨g, i * 3, none⟩ = some (.slice (AF i) ls[i].length (CF i)) ∧ w.cell? ⟨g, i * 3 + 1, none⟩ = some (.int .i64 (M.σ.steps.getD i 0 : Nat)) ∧ w.cell? ⟨g, i * 3 + 2, none⟩ = some (.int .u64 (M.σ.r.sums.getD i 0)) ∧ (∀ j, w.frozen? ⟨g, j, none⟩ = false) ∧ g < w.heap.size := by
  obtain ⟨cur, h1, h2⟩ := h.row
  have e : ls.getD i [] = ls[i] := by rw [List.getD_eq_getElem?_getD, List.getElem?_eq_getElem hi]; rfl
  have c0 := h2 i hi 0 (by omega)
  have c1 := h2 i hi 1 (by omega)
  have c2 := h2 i hi 2 (by omega)
  refine ⟨?_, ?_, ?_, fun j => frozen_of_row _ _ _ _ _ h1, (Array.getElem?_eq_some_iff.1 h1).1⟩
  · rw [cell_of_row _ _ _ _ _ _ h1, ← e]; simpa [mcell] using c0
  · rw [cell_of_row _ _ _ _ _ _ h1]; simpa [mcell] using c1
  · rw [cell_of_row _ _ _ _ _ _ h1]; simpa [mcell] using c2
theorem Rows.same {w' : World} (h : Rows AF CF ls M g w) (e : w'.heap[g]? = w.heap[g]?) : Rows AF CF ls M g w' := by
  obtain ⟨cur, h1, h2⟩ := h.row
  exact ⟨cur, e.trans h1, h2⟩
/-- A row is written. -/
theorem Rows.put (h : Rows AF CF ls M g w) {i : Nat} (hi : i < ls.length) {M' : Mach (S7 a b sb ns)} {d : Nat} {s : Int} (h1 : M'.σ.steps = M.σ.steps.set i d) (h2 : M'.σ.r.sums = M.σ.r.sums.set i s) (l1 : i < M.σ.steps.length) (l2 : i < M.σ.r.sums.length) :
    Rows AF CF ls M' g (((w.setCell ⟨g, i * 3, none⟩ (.slice (AF i) ls[i].length (CF i))).setCell ⟨g, i * 3 + 1, none⟩ (.int .i64 (d : Int))).setCell ⟨g, i * 3 + 2, none⟩ (.int .u64 s)) := by
  obtain ⟨cur, k1, k2⟩ := h.row
  have e : ls.getD i [] = ls[i] := by rw [List.getD_eq_getElem?_getD, List.getElem?_eq_getElem hi]; rfl
  refine ⟨_, heap_setCell_same _ _ _ _ _ _ (heap_setCell_same _ _ _ _ _ _ (heap_setCell_same _ _ _ _ _ _ k1)), fun q hq j hj => ?_⟩
  have kq := k2 q hq j hj
  have hsz : q * 3 + j < cur.size := by
    have h0 : (mcell AF CF ls q (M.σ.steps.getD q 0) (M.σ.r.sums.getD q 0))[j]? = some ((mcell AF CF ls q (M.σ.steps.getD q 0) (M.σ.r.sums.getD q 0))[j]'(by simp [mcell]; omega)) := List.getElem?_eq_getElem _
    rw [h0] at kq
    exact (Array.getElem?_eq_some_iff.1 kq).1
  rw [h1, h2]
  by_cases eq : i = q
  · subst eq
    have e1 : (M.σ.steps.set i d).getD i 0 = d := by rw [List.getD_eq_getElem?_getD, List.getElem?_set_self l1]; rfl
    have e2 : (M.σ.r.sums.set i s).getD i 0 = s := by rw [List.getD_eq_getElem?_getD, List.getElem?_set_self l2]; rfl
    rw [e1, e2]
    have hj3 : j = 0 ∨ j = 1 ∨ j = 2 := by omega
    rcases hj3 with rfl | rfl | rfl
    · simp only [Nat.add_zero] at hsz ⊢
      rw [Array.getElem?_setIfInBounds_ne (by omega), Array.getElem?_setIfInBounds_ne (by omega), Array.getElem?_setIfInBounds_self_of_lt hsz, ← e]; rfl
    · rw [Array.getElem?_setIfInBounds_ne (by omega), Array.getElem?_setIfInBounds_self_of_lt (by simpa using hsz)]; rfl
    · rw [Array.getElem?_setIfInBounds_self_of_lt (by simpa using hsz)]; rfl
  · have e1 : (M.σ.steps.set i d).getD q 0 = M.σ.steps.getD q 0 := by rw [List.getD_eq_getElem?_getD, List.getElem?_set_ne eq, ← List.getD_eq_getElem?_getD]
    have e2 : (M.σ.r.sums.set i s).getD q 0 = M.σ.r.sums.getD q 0 := by rw [List.getD_eq_getElem?_getD, List.getElem?_set_ne eq, ← List.getD_eq_getElem?_getD]
    rw [e1, e2, ← kq, Array.getElem?_setIfInBounds_ne (by omega), Array.getElem?_setIfInBounds_ne (by omega), Array.getElem?_setIfInBounds_ne (by omega)]
end Go.Proofs.Ythllplocbciepaa.Cod.Seven
