/- Package knelllaw10: tickets were put, due then; rows of numbers. -/
import Derived.Test.YtndpkonihcebeaaRst
import Derived.Test.YtndpkonihcebeaaOpenS
namespace Go.Proofs.Ytndpkonihcebeaa.Whl
open Go.RowKit Go.Proofs.Ytndpkonihcebeaa Go.Proofs.Ytndpkonihcebeaa.Cell Go.Proofs.Ytndpkonihcebeaa.Seq Go.Proofs.Ytndpkonihcebeaa.Num Go.Proofs.Ytndpkonihcebeaa.SetN Go.Proofs.Ytndpkonihcebeaa.Dig Go.Proofs.Ytndpkonihcebeaa.Bits
set_option linter.unusedVariables false
set_option linter.unusedSimpArgs false
variable {a b bl bs L S B N G : Nat}

/-- Tickets were put, due then. -/
structure Puts (L S B : Nat) (now : Int) (ds : List Int) (chs : Nat → Nat → List Nat) : Prop where
  at_ : ∀ lv sl t, Val L S lv sl → t ∈ chs lv sl → ∃ d, ds[t]? = some d ∧ Placed now d L B S lv sl
  len : (listOf L S chs).length = ds.length
theorem Puts.empty (now : Int) : Puts L S B now [] (fun _ _ => []) := ⟨fun _ _ _ _ m => by simp at m, by rw [listOf_empty]; rfl⟩
theorem Puts.fresh {now : Int} {ds : List Int} {chs : Nat → Nat → List Nat} (h : Puts L S B now ds chs) : ∀ lv sl, Val L S lv sl → ds.length ∉ chs lv sl := fun lv sl hv m => by
  obtain ⟨d, e, _⟩ := h.at_ lv sl _ hv m
  have := (List.getElem?_eq_some_iff.1 e).1
  omega
theorem Puts.put {now d : Int} {ds : List Int} {chs : Nat → Nat → List Nat} (h : Puts L S B now ds chs) {lv sl : Nat} (hp : Placed now d L B S lv sl) (hv : Val L S lv sl) : Puts L S B now (ds ++ [d]) (insCh ds.length lv sl chs) := by
  refine ⟨fun lv' sl' t hv' m => ?_, by rw [listOf_ins hv, h.len, List.length_append]; rfl⟩
  have old : t ∈ chs lv' sl' → ∃ d', (ds ++ [d])[t]? = some d' ∧ Placed now d' L B S lv' sl' := fun m => by
    obtain ⟨d', e, hp'⟩ := h.at_ lv' sl' t hv' m
    exact ⟨d', by rw [List.getElem?_append_left (List.getElem?_eq_some_iff.1 e).1]; exact e, hp'⟩
  unfold insCh at m
  split at m
  · rename_i he
    obtain ⟨rfl, rfl⟩ := he
    rcases List.mem_cons.1 m with rfl | m
    · exact ⟨d, by rw [List.getElem?_append_right (Nat.le_refl _)]; simp, hp⟩
    · exact old m
  · exact old m
/-- The times of a row of numbers. -/
def dues (now : Int) (zs : List Int) : List Int := zs.map fun z => now + 1 + z / 16
theorem dues_len (now : Int) (zs : List Int) : (dues now zs).length = zs.length := List.length_map ..
theorem dues_take {now z : Int} {zs : List Int} {r : Nat} (h : zs[r]? = some z) : dues now (zs.take (r + 1)) = dues now (zs.take r) ++ [now + 1 + z / 16] := by
  unfold dues
  rw [List.take_add_one, h, List.map_append]; rfl
theorem slk_cell {k : IntKind} {w : World} {v : Value} {zs : List Int} (h : SlK k w v zs) : ∃ A cap, v = .slice A zs.length cap ∧ zs.length ≤ cap ∧ cap ≤ maxLen ∧ ∀ i (hi : i < zs.length), ∃ d, A = some d ∧ d.block < w.heap.size ∧ w.cell? (d.add i) = some (.int k zs[i]) := by
  rcases h with ⟨rfl, rfl⟩ | ⟨d, cap, rfl, h1, h2, h3⟩
  · exact ⟨none, 0, rfl, Nat.le_refl _, by unfold maxLen; omega, fun i hi => absurd hi (by simp)⟩
  · refine ⟨some d, cap, rfl, h1, h2, fun i hi => ⟨d, rfl, ?_, h3 i hi⟩⟩
    have := h3 i hi
    apply Nat.lt_of_not_le
    intro hc
    have e : w.heap[(d.add i).block]? = none := by
      rw [Array.getElem?_eq_none_iff]
      have : (d.add i).block = d.block := by unfold Addr.add; split <;> rfl
      omega
    unfold World.cell? at this
    simp [e] at this
theorem tc_at : ∀ {T : List (Nat × Nat × Nat)} {k : Nat} {x : Nat × Nat × Nat}, T[k]? = some x → (tc T)[k * 3]? = some (.int .i64 (x.1 : Int)) ∧ (tc T)[k * 3 + 1]? = some (.int .i64 (x.2.1 : Int)) ∧ (tc T)[k * 3 + 2]? = some (.int .i64 (x.2.2 : Int))
  | [], k, x, h => by simp at h
  | y :: T, 0, x, h => by
    simp only [List.getElem?_cons_zero, Option.some.injEq] at h
    subst h
    exact ⟨rfl, rfl, rfl⟩
  | y :: T, k + 1, x, h => by
    simp only [List.getElem?_cons_succ] at h
    have e : tc (y :: T) = [.int .i64 (y.1 : Int), .int .i64 (y.2.1 : Int), .int .i64 (y.2.2 : Int)] ++ tc T := rfl
    have ih := tc_at h
    rw [e, List.getElem?_append_right (by simp; omega), List.getElem?_append_right (by simp; omega), List.getElem?_append_right (by simp; omega)]
    simp only [List.length_cons, List.length_nil]
    rw [show (k + 1) * 3 - (0 + 1 + 1 + 1) = k * 3 by omega, show (k + 1) * 3 + 1 - (0 + 1 + 1 + 1) = k * 3 + 1 by omega, show (k + 1) * 3 + 2 - (0 + 1 + 1 + 1) = k * 3 + 2 by omega]
    exact ih
end Go.Proofs.Ytndpkonihcebeaa.Whl
