/- Appending a slice that is read, nil let in, to a slice of the call's own, for elements of any size. -/
import Derived.Test.YtndpkonihcebeaaBase
import Derived.Deep.AppendLies
import Derived.Maps.AppendAt
import Derived.RegionTactic
namespace Go.Proofs.Ytndpkonihcebeaa
open Go Go.RowKit
set_option linter.unusedVariables false
/-- What is known of a slice's elements. -/
structure ElemZ (P : Program) (t e : TypeId) (z : Value) (sz bytes : Nat) : Prop where
  under : P.underlying t = some (.slice e)
  info : (P.info? e).map (fun i => (i.zero, i.size, i.bytes)) = some (some z, sz, bytes)
  one : z.cells.size = sz
  pos : 0 < sz
/-- A slice is read: cell by cell. -/
def ReadsZ (sz : Nat) (w : World) (A : Option Addr) (m : Nat) (news : List Value) : Prop := news.length = m * sz ∧ ∀ (j : Nat) (u : Value), news[j]? = some u → ∃ ad : Addr, A = some ad ∧ w.cell? (ad.add j) = some u
section
variable {P : Program} (w : World)
theorem run_appz (base : Nat) (t ty e : TypeId) (z : Value) (sz bytes : Nat) (hE : ElemZ P t e z sz bytes) (v : Value) (n : Nat) (xs : List Value) (hown : w.ownsRow base e sz v n xs)
    (A : Option Addr) (m c : Nat) (news : List Value) (hr : ReadsZ sz w A m news) (h1 : ∀ u ∈ news, u.oneCell' = true) (h63 : n + m ≤ maxLen) (hbytes : (n + m) * bytes ≤ 140737488355328) (hbase : base ≤ w.heap.size) :
    ∃ A' c' w', (Builtin.append_ #[t, t] ty #[v, .slice A m c]).run P w = .ok (.slice A' (n + m) c') w' ∧ w'.ownsRow base e sz (.slice A' (n + m) c') (n + m) (xs ++ news) ∧ w.grownBy w' v.ownBlock ∧
      ((Value.slice A' (n + m) c').ownBlock = v.ownBlock ∨ (Value.slice A' (n + m) c').ownBlock = some w.heap.size) := by
  obtain ⟨i, hi, hz0⟩ := Option.map_eq_some_iff.1 hE.info
  simp only [Prod.mk.injEq] at hz0
  obtain ⟨hz, hs, hb⟩ := hz0
  have shape : ∀ {w' : World} {v' : Value} {k : Nat} {ys : List Value}, w'.ownsRow base e sz v' k ys → ∃ A' c', v' = .slice A' k c' := by
    intro w' v' k ys h
    rcases h.2 with ⟨rfl, rfl⟩ | ⟨g, cap, cur, rfl, _⟩
    · exact ⟨none, 0, rfl⟩
    · exact ⟨_, _, rfl⟩
  cases A with
  | none =>
    have hn : news = [] := by
      cases news with
      | nil => rfl
      | cons u us =>
        obtain ⟨ad, h, _⟩ := hr.2 0 u rfl
        simp at h
    subst hn
    obtain rfl : 0 = m := by
        have h1 := hr.1
        have h2 := hE.pos
        simp only [List.length_nil] at h1
        rcases Nat.mul_eq_zero.1 h1.symm with h | h
        · exact h.symm
        · omega
    obtain ⟨A', c', rfl⟩ := shape hown
    refine ⟨A', c', w, ?_, by simpa using hown, ⟨rfl, rfl, rfl, Nat.le_refl _, fun _ _ _ => rfl⟩, Or.inl rfl⟩
    rcases hown.2 with ⟨hv, h0⟩ | ⟨g, cap, cur, hv, _, _, hnc, _⟩
    · subst h0
      simp only [Value.slice.injEq] at hv
      obtain ⟨rfl, _, rfl⟩ := hv
      simp [Builtin.append_, run_underlying hE.under, sizeOf, typeInfo, hi, Builtin.lenOf, Builtin.firstCells]
    · simp only [Value.slice.injEq] at hv
      obtain ⟨rfl, _, rfl⟩ := hv
      simp [Builtin.append_, run_underlying hE.under, sizeOf, typeInfo, hi, Builtin.lenOf, Builtin.firstCells, hnc, storeCells]
  | some ad =>
    have hc : ∀ j u, news[j]? = some u → w.cell? (ad.add j) = some u := fun j u hu => by
      obtain ⟨ad', h, hc⟩ := hr.2 j u hu
      obtain rfl := Option.some.inj h
      exact hc
    obtain ⟨v', w', hrun, h2, h3, _, h5⟩ := run_append_own_at (P := P) w base t ty e i z sz bytes hE.under hi hz hs hb hE.one hE.pos v n xs hown ad m c news hr.1 hc h1 h63 hbytes hbase
    obtain ⟨A', c', rfl⟩ := shape h2
    exact ⟨A', c', w', hrun, h2, h3, h5⟩
/-- At the list of a plain region's operations. -/
theorem wpList_appz {ops : Array Oper} {rest : List Oper} {o : Oper} {a : Act} {Q : Exit → Act → World → Prop} (hgd : o.guard = none) (s x : Operand) (t : TypeId)
    (ho : o.op = .call { callee := .builtin .append, args := #[s, x], argTypes := #[t, t] })
    (base : Nat) (e : TypeId) (z : Value) (sz bytes : Nat) (hE : ElemZ P t e z sz bytes) (v : Value) (n : Nat) (xs : List Value) (hs : a.eval s = v) (hown : w.ownsRow base e sz v n xs)
    (A : Option Addr) (m c : Nat) (news : List Value) (hx : a.eval x = .slice A m c) (hr : ReadsZ sz w A m news) (h1 : ∀ u ∈ news, u.oneCell' = true) (h63 : n + m ≤ maxLen) (hbytes : (n + m) * bytes ≤ 140737488355328) (hbase : base ≤ w.heap.size)
    (h : ∀ A' c' w', w'.ownsRow base e sz (.slice A' (n + m) c') (n + m) (xs ++ news) → w.grownBy w' v.ownBlock → ((Value.slice A' (n + m) c').ownBlock = v.ownBlock ∨ (Value.slice A' (n + m) c').ownBlock = some w.heap.size) → wpList P ops Q rest (a.put o.dst (.slice A' (n + m) c')) w') : wpList P ops Q (o :: rest) a w :=
  wpList_plain hgd fun _ hK => by
    obtain ⟨A', c', w', hrun, h2, h3, h4⟩ := run_appz (P := P) w base t o.type e z sz bytes hE v n xs hown A m c news hr h1 h63 hbytes hbase
    unfold Oper.wp execOp
    simp only [ho, resolve, invoke, builtin, Sem.run_bind, Sem.run_pure, Result.andThen_ok, List.map_toArray, List.map_cons, List.map_nil, hs, hx, hrun]
    exact hK _ _ (h A' c' w' h2 h3 h4)
end
end Go.Proofs.Ytndpkonihcebeaa
