/- Package wheel, in plain words: what Pass makes of the lists. -/
import Derived.Test.YtndpkonihcebeaaWst
namespace Go.Proofs.Ytndpkonihcebeaa.Whl
open Go.RowKit Go.Proofs.Ytndpkonihcebeaa Go.Proofs.Ytndpkonihcebeaa.Cell Go.Proofs.Ytndpkonihcebeaa.Seq Go.Proofs.Ytndpkonihcebeaa.Num Go.Proofs.Ytndpkonihcebeaa.SetN Go.Proofs.Ytndpkonihcebeaa.Dig Go.Proofs.Ytndpkonihcebeaa.Bits
set_option linter.unusedVariables false
set_option linter.unusedSimpArgs false
variable {L S N : Nat}

theorem Wst.congr {xs : List Int} {chs chs' : Nat → Nat → List Nat} (h : Wst L S N xs chs) (e : ∀ lv sl, Val L S lv sl → chs' lv sl = chs lv sl) : Wst L S N xs chs' :=
  ⟨h.good, h.wide, h.hn, h.s1, h.s64, fun lv sl hv => by rw [e lv sl hv]; exact h.chn lv sl hv, fun lv sl hl hs => by rw [e lv sl ⟨by omega, hs, by omega⟩]; exact h.mp lv sl hl hs,
    fun lv sl lv' sl' t g1 g2 m1 m2 => h.nd lv sl lv' sl' t g1 g2 (by rw [← e lv sl g1]; exact m1) (by rw [← e lv' sl' g2]; exact m2), fun lv sl hv => by rw [e lv sl hv]; exact h.ndl lv sl hv, fun lv sl t hv m => h.lt lv sl t hv (by rw [← e lv sl hv]; exact m)⟩
theorem takeX_getD : ∀ (l : List Nat) (xs : List Int) (i : Nat), (takeX l xs).getD i 0 = if i ∈ l then 0 else xs.getD i 0
  | [], xs, i => by simp [takeX]
  | k :: r, xs, i => by
    rw [takeX, takeX_getD r]
    by_cases h1 : i ∈ r
    · rw [if_pos h1, if_pos (List.mem_cons_of_mem _ h1)]
    · rw [if_neg h1]
      by_cases h2 : i = k
      · subst h2
        rw [if_pos List.mem_cons_self]
        by_cases hl : i < xs.length
        · rw [getD_set_eq' hl]
        · rw [getD_set_out hl]
      · rw [getD_set_ne' (fun e => h2 e.symm), if_neg (by simp [h1, h2])]
theorem takeL_all : ∀ (l : List Nat) (xs o : List Int), l.Nodup → (∀ i ∈ l, xs.getD i 0 ≠ 0) → takeL l xs o = o ++ l.map fun i => xs.getD i 0 - 1
  | [], xs, o, _, _ => by simp [takeL]
  | k :: r, xs, o, hn, hz => by
    have hk := hz k List.mem_cons_self
    rw [takeL, if_neg hk, takeL_all r (xs.set k 0) _ (List.nodup_cons.1 hn).2 (fun i hi => by
      have hne : k ≠ i := fun e => (List.nodup_cons.1 hn).1 (e ▸ hi)
      rw [getD_set_ne' hne]; exact hz i (List.mem_cons_of_mem _ hi))]
    have e : (r.map fun i => (xs.set k 0).getD i 0 - 1) = r.map fun i => xs.getD i 0 - 1 := by
      apply List.map_congr_left
      intro i hi
      have hne : k ≠ i := fun e => (List.nodup_cons.1 hn).1 (e ▸ hi)
      rw [getD_set_ne' hne]
    rw [e]; simp
theorem upS_nodup (s : Nat) : ∀ d a, (upS s a d).Nodup
  | 0, a => by simp [upS]
  | d + 1, a => by
    unfold upS
    split
    · exact List.nodup_cons.2 ⟨fun h => by have := mem_upS' s a d (a + 1) h; omega, upS_nodup s d (a + 1)⟩
    · exact upS_nodup s d (a + 1)
theorem slots_nodup (s : Nat) : (slotsOf s).Nodup := upS_nodup s 64 0
theorem upS_mem (s n : Nat) : ∀ d a, a ≤ n → n < a + d → s.testBit n = true → n ∈ upS s a d
  | 0, a, h1, h2, _ => by omega
  | d + 1, a, h1, h2, h3 => by
    unfold upS
    by_cases e : a = n
    · subst e; rw [if_pos h3]; exact List.mem_cons_self
    · have := upS_mem s n d (a + 1) (by omega) (by omega) h3
      split
      · exact List.mem_cons_of_mem _ this
      · exact this
theorem slots_mem {s n : Nat} : n ∈ slotsOf s ↔ n < 64 ∧ s.testBit n = true := ⟨mem_slots', fun h => upS_mem s n 64 0 (by omega) (by omega) h.2⟩
theorem upS_flat {α : Type} (s : Nat) (f : Nat → List α) : ∀ d a, (upS s a d).flatMap f = (List.range' a d).flatMap fun i => if s.testBit i = true then f i else []
  | 0, a => by simp [upS]
  | d + 1, a => by
    rw [List.range'_succ, List.flatMap_cons, ← upS_flat s f d (a + 1), show upS s a (d + 1) = if s.testBit a then a :: upS s (a + 1) d else upS s (a + 1) d from rfl]
    by_cases h : s.testBit a = true
    · rw [if_pos h, if_pos h, List.flatMap_cons]
    · rw [if_neg h, if_neg h, List.nil_append]
theorem flatMap_congr' {α β : Type} {l : List α} {f g : α → List β} (h : ∀ i ∈ l, f i = g i) : l.flatMap f = l.flatMap g := by
  induction l with
  | nil => rfl
  | cons x r ih => rw [List.flatMap_cons, List.flatMap_cons, h x List.mem_cons_self, ih fun i hi => h i (List.mem_cons_of_mem _ hi)]
theorem slots_flat {α : Type} {s S : Nat} (hS : S ≤ 64) (f g : Nat → List α) (h1 : ∀ i, i < S → (if s.testBit i = true then f i else []) = g i) (h2 : ∀ i, S ≤ i → s.testBit i = false) : (slotsOf s).flatMap f = (List.range S).flatMap g := by
  unfold slotsOf fromS
  rw [upS_flat, List.range_eq_range', show 64 - 0 = S + (64 - S) by omega, ← List.range'_append_1, List.flatMap_append]
  have e2 : ((List.range' (0 + S) (64 - S)).flatMap fun i => if s.testBit i = true then f i else []) = [] := by
    rw [List.flatMap_eq_nil_iff]
    intro i hi
    have := (List.mem_range'_1.1 hi).1
    rw [if_neg (by rw [h2 i (by omega)]; decide)]
  rw [e2, List.append_nil]
  apply flatMap_congr'
  intro i hi
  have := (List.mem_range'_1.1 hi).2
  exact h1 i (by omega)
theorem clr_bit {set g : Nat} (hs : set < 2 ^ 64) (hg : g < 2 ^ 64) (i : Nat) : (clr set g).testBit i = (set.testBit i && !g.testBit i) := by
  unfold clr
  rw [Nat.testBit_and]
  by_cases hi : i < 64
  · rw [show 2 ^ 64 - 1 - g = 2 ^ 64 - (g + 1) by omega, Nat.testBit_two_pow_sub_succ hg]
    simp [hi]
  · have : set.testBit i = false := Nat.testBit_lt_two_pow (Nat.lt_of_lt_of_le hs (Nat.pow_le_pow_right (by decide) (by omega)))
    rw [this]; simp
/-- The lists without those of a level's passed slots. -/
def clrCh (lv lo hi : Nat) (chs : Nat → Nat → List Nat) (a b : Nat) : List Nat := if a = lv ∧ lo ≤ b ∧ b ≤ hi then [] else chs a b
theorem gone_bit {set lo hi : Nat} (hh : hi ≤ 63) (i : Nat) : (gone set lo hi).testBit i = (set.testBit i && decide (lo ≤ i) && decide (i ≤ hi)) := by
  unfold gone
  by_cases h : lo ≤ hi
  · rw [if_pos h, bit_btw h hh]
  · rw [if_neg h, Nat.zero_testBit]
    have : ¬ (lo ≤ i ∧ i ≤ hi) := by omega
    by_cases h1 : lo ≤ i
    · simp [h1, show ¬ i ≤ hi by omega]
    · simp [h1]
end Go.Proofs.Ytndpkonihcebeaa.Whl
