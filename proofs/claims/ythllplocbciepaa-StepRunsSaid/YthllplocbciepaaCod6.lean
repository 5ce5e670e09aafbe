/- Work that is cut into steps: beginnings. -/
import Derived.Test.YthllplocbciepaaCod5
namespace Go.Proofs.Ythllplocbciepaa.Cod
open Go.RowKit Go.Proofs.Ythllplocbciepaa Go.Proofs.Ythllplocbciepaa.Cell
set_option linter.unusedVariables false
set_option linter.unusedSimpArgs false
variable {S : Sys}

/-- An arena of n cells, wherever it lies. -/
theorem New_ex (n : Nat) (h1 : 1 ≤ n) (h2 : n ≤ 1048576) (w : World) : Calls Try.prog 36 #[.int .i64 (n : Int)] w fun e w' =>
    ∃ a b, e = .returned (.tuple #[.pointer (some ⟨a, 0, none⟩), .int .i64 0]) ∧ Arena w' a b 0 (List.replicate n 0) ∧ w.heap.size ≤ a ∧ w.heap.size ≤ b ∧ Made w w' :=
  (New_yes n h1 h2 w).mono fun e w' ⟨h3, h4, h5, h6⟩ => ⟨_, _, h3, h4, by omega, by omega, h6⟩
theorem zeros_wide (n : Nat) : ∀ x ∈ List.replicate n (0 : Int), 0 ≤ x ∧ x < 18446744073709551616 := fun x hx => by
  obtain rfl := (List.mem_replicate.1 hx).2
  omega
/-- What all share, at the beginning: no task yet. -/
theorem Inv.start {n : Nat} {w : World} {xs : List Int} {r : S.R} {own : Nat → Prop} (h : Arena w S.a S.b 0 xs) (hw : ∀ x ∈ xs, 0 ≤ x ∧ x < 18446744073709551616) (hl : xs.length ≤ 1048576) (hn : n < 4611686018427387904)
    (ho : ∀ k, own k → k ≠ S.a ∧ k ≠ S.b ∧ k < w.heap.size) (hj : S.J r own w) : Inv S n ⟨0, xs, [], r⟩ [] ⟨[], own, fun _ => False⟩ w :=
  ⟨h, by simp only; omega, hw, hl, rfl, rfl, fun i t v s h => by simp at h, fun s hs => by simp at hs, List.nodup_nil, fun t ht => by simp at ht, ho, hj, fun k hk => hk.elim⟩
theorem Ready.start {m n : Nat} {w : World} {σ : St S.R} {own scr : Nat → Prop} (h : Inv S n σ [] ⟨[], own, scr⟩ w) : Ready S m n ⟨[], σ⟩ [] ⟨[], own, scr⟩ w :=
  ⟨h, rfl, fun i k v h => by simp at h⟩
/-- A slice's cells, out of a block that is known whole. -/
theorem Lies.row {w : World} {L : Lay} {g o : Nat} {R : Array Value} {t : TypeId} {fr : Nat × Nat} {vs : List Value} (h : w.heap[g]? = some (.cells R t fr)) (ha : ¬ Mut S L g) (hR : ∀ (i : Nat) (v : Value), vs[i]? = some v → R[o + i]? = some v) : Lies S w L (some ⟨g, o, none⟩) vs := fun i v hi =>
  ⟨_, rfl, (Array.getElem?_eq_some_iff.1 h).1, ha, by
    have e : (⟨g, o, none⟩ : Addr).add i = ⟨g, o + i, none⟩ := by unfold Addr.add; split <;> simp_all
    rw [e, cell_of_row _ _ _ _ _ _ h]
    exact hR i v hi⟩
theorem Lies.nil {w : World} {L : Lay} {A : Option Addr} : Lies S w L A [] := fun i v h => by simp at h
theorem Rep.live {m : Nat} {k : S.K} {v : Value} {w : World} {L : Lay} (h : Rep S m k v w L) (hk : S.nil k = false) : ∃ f cap, v = .func (.func f) #[] cap := by
  rcases h.shape with ⟨h, _⟩ | ⟨_, f, cap, h, _⟩
  · rw [hk] at h; simp at h
  · exact ⟨f, cap, h⟩
theorem Ready.access {m n n' : Nat} {M : Mach S} {σ' : St S.R} {rs : List Value} {L : Lay} {w w' : World} (h : Ready S m n M rs L w) (e : Ext S w L w' L) (hi : Inv S n' σ' rs L w') : Ready S m n' ⟨M.ks, σ'⟩ rs L w' :=
  ⟨hi, h.len, fun i k v h1 h2 => (h.rep i k v h1 h2).later e⟩
theorem Lies.at {w : World} {L : Lay} {A : Option Addr} {vs : List Value} (h : Lies S w L A vs) (i : Nat) {v : Value} (hv : vs[i]? = some v) {g o : Nat} (hA : A = some ⟨g, o, none⟩) : w.cell? ⟨g, o + i, none⟩ = some v := by
  obtain ⟨a, ha, _, _, hc⟩ := h i v hv
  subst hA
  obtain rfl := Option.some.inj ha
  have e : (⟨g, o, none⟩ : Addr).add i = ⟨g, o + i, none⟩ := by unfold Addr.add; split <;> simp_all
  rw [e] at hc
  exact hc
/-- What was there when the law began never turns. -/
structure Old (S : Sys) (B : Nat) (w : World) (L : Lay) : Prop where
  le : B ≤ w.heap.size
  apart : ∀ k, k < B → ¬ Mut S L k
theorem Old.later {B : Nat} {w w' : World} {L L' : Lay} (h : Old S B w L) (e : Ext S w L w' L') : Old S B w' L' :=
  ⟨Nat.le_trans h.le e.size, fun k hk => (e.block k (Nat.lt_of_lt_of_le hk h.le) (h.apart k hk)).1⟩
theorem Old.below {B : Nat} {w w' : World} {L L' : Lay} (h : Old S B w L) (e : Ext S w L w' L') : Below B w w' :=
  ⟨e.os, e.tape, e.output, e.size, fun k hk => (e.block k (Nat.lt_of_lt_of_le hk h.le) (h.apart k hk)).2⟩

end Go.Proofs.Ythllplocbciepaa.Cod
