/- What the fresh arena's row is like, in plain numbers. -/
import Derived.Test.YtnkcekgjppkbpaaFresh3
namespace Go.Proofs.Ytnkcekgjppkbpaa.Fresh
open Go.RowKit Go.Proofs.Ytnkcekgjppkbpaa Go.Proofs.Ytnkcekgjppkbpaa.Cell Go.Proofs.Ytnkcekgjppkbpaa.Wd Go.Proofs.Ytnkcekgjppkbpaa.Plan Go.Proofs.Ytnkcekgjppkbpaa.PlanN Go.Proofs.Ytnkcekgjppkbpaa.Num
set_option linter.unusedVariables false
set_option linter.unusedSimpArgs false

theorem chain_other (ys : List Int) (loc : Nat → Nat) (i : Nat) : ∀ k, (∀ j, j + 1 < k → loc j ≠ i) → (chain ys loc k)[i]? = ys[i]?
  | 0, _ => rfl
  | 1, _ => rfl
  | k + 2, h => by rw [chain, List.getElem?_set_ne (h k (by omega))]; exact chain_other ys loc i (k + 1) fun j hj => h j (by omega)
theorem chain_at (ys : List Int) (loc : Nat → Nat) (hinj : ∀ i j, loc i = loc j → i = j) (hl : ∀ j, loc j < ys.length ∨ True) : ∀ k j, j + 1 < k → loc j < ys.length → (chain ys loc k)[loc j]? = some ((j : Int) + 2)
  | 0, j, h, _ => by omega
  | 1, j, h, _ => by omega
  | k + 2, j, h, hj => by
    rw [chain]
    by_cases e : j = k
    · subst e; rw [List.getElem?_set_self (by rw [chain_len]; exact hj)]
    · rw [List.getElem?_set_ne (fun c => e (hinj _ _ c).symm)]; exact chain_at ys loc hinj hl (k + 1) j (by omega) hj
theorem states_other (ys : List Int) (st : Nat → Nat) (v : Int) (i : Nat) : ∀ k, (∀ j, j < k → st j ≠ i) → (states ys st v k)[i]? = ys[i]?
  | 0, _ => rfl
  | k + 1, h => by rw [states, List.getElem?_set_ne (h k (by omega))]; exact states_other ys st v i k fun j hj => h j (by omega)
theorem states_at (ys : List Int) (st : Nat → Nat) (v : Int) : ∀ k j, j < k → st j < ys.length → (states ys st v k)[st j]? = some v
  | 0, j, h, _ => by omega
  | k + 1, j, h, hj => by
    rw [states]
    by_cases e : st k = st j
    · rw [e, List.getElem?_set_self (by rw [states_len]; exact hj)]
    · rw [List.getElem?_set_ne e]
      refine states_at ys st v k j ?_ hj
      rcases Nat.lt_succ_iff_lt_or_eq.1 h with h' | h'
      · exact h'
      · exact absurd (by rw [h']) e
/-- Two places of each of the first k things are made nought. -/
def zn (ys : List Int) (st ln : Nat → Nat) : Nat → List Int
  | 0 => ys
  | k + 1 => ((zn ys st ln k).set (st k) 0).set (ln k) 0
theorem zn_len (ys : List Int) (st ln : Nat → Nat) : ∀ k, (zn ys st ln k).length = ys.length
  | 0 => rfl
  | k + 1 => by rw [zn, List.length_set, List.length_set]; exact zn_len ys st ln k
theorem zn_other (ys : List Int) (st ln : Nat → Nat) (i : Nat) : ∀ k, (∀ j, j < k → st j ≠ i ∧ ln j ≠ i) → (zn ys st ln k)[i]? = ys[i]?
  | 0, _ => rfl
  | k + 1, h => by rw [zn, List.getElem?_set_ne (h k (by omega)).2, List.getElem?_set_ne (h k (by omega)).1]; exact zn_other ys st ln i k fun j hj => h j (by omega)
theorem zn_at (ys : List Int) (st ln : Nat → Nat) (i : Nat) (hi : i < ys.length) : ∀ k, (∃ j, j < k ∧ (st j = i ∨ ln j = i)) → (zn ys st ln k)[i]? = some 0
  | 0, ⟨j, h, _⟩ => by omega
  | k + 1, ⟨j, h, hj⟩ => by
    rw [zn]
    by_cases e2 : ln k = i
    · rw [e2, List.getElem?_set_self (by rw [List.length_set, zn_len]; exact hi)]
    · rw [List.getElem?_set_ne e2]
      by_cases e1 : st k = i
      · rw [e1, List.getElem?_set_self (by rw [zn_len]; exact hi)]
      · rw [List.getElem?_set_ne e1]
        refine zn_at ys st ln i hi k ⟨j, ?_, hj⟩
        rcases Nat.lt_succ_iff_lt_or_eq.1 h with h' | h'
        · exact h'
        · subst h'; rcases hj with h | h
          · exact absurd h e1
          · exact absurd h e2
/-- One place of each of the first k things is made nought. -/
def zt (ys : List Int) (lt : Nat → Nat) : Nat → List Int
  | 0 => ys
  | k + 1 => (zt ys lt k).set (lt k) 0
theorem zt_len (ys : List Int) (lt : Nat → Nat) : ∀ k, (zt ys lt k).length = ys.length
  | 0 => rfl
  | k + 1 => by rw [zt, List.length_set]; exact zt_len ys lt k
theorem zt_eq (ys : List Int) (lt : Nat → Nat) : ∀ k, zt ys lt k = states ys lt 0 k
  | 0 => rfl
  | k + 1 => by rw [zt, states, zt_eq ys lt k]
/-- The places are as the plan lays them. -/
structure Lay4 (Z N T : Nat) (st ln lt : Nat → Nat) (nb : Nat) : Prop where
  nb3 : 3 ≤ nb
  st_ : ∀ k, st k = nb + k * 4 + 0
  ln_ : ∀ k, ln k = nb + k * 4 + 3
  lt_ : ∀ k, lt k = nb + 4 * N + k * 3 + 2
  z : nb + 4 * N + 3 * T ≤ Z
  n : 1 ≤ N
  t : 1 ≤ T
/-- The row that the fresh arena has. -/
def row0 (Z N T : Nat) (st ln lt : Nat → Nat) (v : Int) : List Int := states (chain ((chain ((List.replicate Z 0).set 1 1) ln N).set 2 1) lt T) st v N
section
variable {Z N T : Nat} {st ln lt : Nat → Nat} {nb : Nat} {v : Int}
theorem row0_len : (row0 Z N T st ln lt v).length = Z := by
  rw [row0, states_len, chain_len, List.length_set, chain_len, List.length_set, List.length_replicate]
theorem row0_st (h : Lay4 Z N T st ln lt nb) {k : Nat} (hk : k < N) : (row0 Z N T st ln lt v)[st k]? = some v := by
  refine states_at _ _ _ _ _ hk ?_
  have := h.z; have := h.st_ k
  rw [chain_len, List.length_set, chain_len, List.length_set, List.length_replicate]; omega
theorem base_at {i : Nat} (h1 : i ≠ 1) (hz : i < Z) : ((List.replicate Z (0 : Int)).set 1 1)[i]? = some 0 := by
  rw [List.getElem?_set_ne (Ne.symm h1), List.getElem?_replicate, if_pos hz]
theorem row0_ln (h : Lay4 Z N T st ln lt nb) {k : Nat} (hk : k < N) : (row0 Z N T st ln lt v)[ln k]? = some (if k + 1 = N then 0 else (k : Int) + 2) := by
  have h1 := h.nb3; have hz := h.z; have hl := h.ln_ k; have ht := h.t
  unfold row0
  rw [states_other _ _ _ _ _ (fun j hj => by have := h.st_ j; omega), chain_other _ _ _ _ (fun j hj => by have := h.lt_ j; omega), List.getElem?_set_ne (by omega)]
  by_cases e : k + 1 = N
  · rw [if_pos e, chain_other _ _ _ _ (fun j hj => by have := h.ln_ j; omega)]
    exact base_at (by omega) (by omega)
  · rw [if_neg e]
    exact chain_at _ _ (fun i j c => by have := h.ln_ i; have := h.ln_ j; omega) (fun _ => Or.inr trivial) N k (by omega) (by rw [List.length_set, List.length_replicate]; omega)
theorem row0_lt (h : Lay4 Z N T st ln lt nb) {k : Nat} (hk : k < T) : (row0 Z N T st ln lt v)[lt k]? = some (if k + 1 = T then 0 else (k : Int) + 2) := by
  have h1 := h.nb3; have hz := h.z; have hl := h.lt_ k; have ht := h.t
  unfold row0
  rw [states_other _ _ _ _ _ (fun j hj => by have := h.st_ j; omega)]
  by_cases e : k + 1 = T
  · rw [if_pos e, chain_other _ _ _ _ (fun j hj => by have := h.lt_ j; omega), List.getElem?_set_ne (by omega), chain_other _ _ _ _ (fun j hj => by have := h.ln_ j; omega)]
    exact base_at (by omega) (by omega)
  · rw [if_neg e]
    exact chain_at _ _ (fun i j c => by have := h.lt_ i; have := h.lt_ j; omega) (fun _ => Or.inr trivial) T k (by omega) (by rw [List.length_set, chain_len, List.length_set, List.length_replicate]; omega)
theorem row0_one (h : Lay4 Z N T st ln lt nb) : (row0 Z N T st ln lt v)[1]? = some 1 := by
  have h1 := h.nb3; have hz := h.z; have hn := h.n
  unfold row0
  rw [states_other _ _ _ _ _ (fun j hj => by have := h.st_ j; omega), chain_other _ _ _ _ (fun j hj => by have := h.lt_ j; omega), List.getElem?_set_ne (by omega), chain_other _ _ _ _ (fun j hj => by have := h.ln_ j; omega), List.getElem?_set_self (by rw [List.length_replicate]; omega)]
theorem row0_two (h : Lay4 Z N T st ln lt nb) : (row0 Z N T st ln lt v)[2]? = some 1 := by
  have h1 := h.nb3; have hz := h.z; have hn := h.n
  unfold row0
  rw [states_other _ _ _ _ _ (fun j hj => by have := h.st_ j; omega), chain_other _ _ _ _ (fun j hj => by have := h.lt_ j; omega), List.getElem?_set_self (by rw [chain_len, List.length_set, List.length_replicate]; omega)]
theorem row0_else (h : Lay4 Z N T st ln lt nb) {i : Nat} (hi : i < Z) (i1 : i ≠ 1) (i2 : i ≠ 2) (hs : ∀ j, j < N → st j ≠ i) (hl : ∀ j, j < N → ln j ≠ i) (ht : ∀ j, j < T → lt j ≠ i) : (row0 Z N T st ln lt v)[i]? = some 0 := by
  unfold row0
  rw [states_other _ _ _ _ _ hs, chain_other _ _ _ _ (fun j hj => ht j (by omega)), List.getElem?_set_ne (Ne.symm i2), chain_other _ _ _ _ (fun j hj => hl j (by omega))]
  exact base_at i1 hi
theorem zn_st (h : Lay4 Z N T st ln lt nb) {k : Nat} (hk : k < N) : (zn (row0 Z N T st ln lt v) st ln k)[st k]? = some v := by
  rw [zn_other _ _ _ _ _ (fun j hj => by have := h.st_ j; have := h.ln_ j; have := h.st_ k; omega)]
  exact row0_st h hk
theorem zn_ln (h : Lay4 Z N T st ln lt nb) {k : Nat} (hk : k < N) : (zn (row0 Z N T st ln lt v) st ln k)[ln k]? = some (if k + 1 = N then 0 else (k : Int) + 2) := by
  rw [zn_other _ _ _ _ _ (fun j hj => by have := h.st_ j; have := h.ln_ j; have := h.ln_ k; omega)]
  exact row0_ln h hk
theorem zt_lt (h : Lay4 Z N T st ln lt nb) {k : Nat} (hk : k < T) : (zt (zn (row0 Z N T st ln lt v) st ln N) lt k)[lt k]? = some (if k + 1 = T then 0 else (k : Int) + 2) := by
  rw [zt_eq, states_other _ _ _ _ _ (fun j hj => by have := h.lt_ j; have := h.lt_ k; omega), zn_other _ _ _ _ _ (fun j hj => by have := h.st_ j; have := h.ln_ j; have := h.lt_ k; omega)]
  exact row0_lt h hk
theorem zt_one (h : Lay4 Z N T st ln lt nb) : (zt (zn (row0 Z N T st ln lt v) st ln N) lt T)[1]? = some 1 := by
  have := h.nb3
  rw [zt_eq, states_other _ _ _ _ _ (fun j hj => by have := h.lt_ j; omega), zn_other _ _ _ _ _ (fun j hj => by have := h.st_ j; have := h.ln_ j; omega)]
  exact row0_one h
theorem zt_two (h : Lay4 Z N T st ln lt nb) : (zt (zn (row0 Z N T st ln lt v) st ln N) lt T)[2]? = some 1 := by
  have := h.nb3
  rw [zt_eq, states_other _ _ _ _ _ (fun j hj => by have := h.lt_ j; omega), zn_other _ _ _ _ _ (fun j hj => by have := h.st_ j; have := h.ln_ j; omega)]
  exact row0_two h
theorem zt_full : (zt (zn (row0 Z N T st ln lt v) st ln N) lt T).length = Z := by rw [zt_len, zn_len, row0_len]
theorem zt_all (h : Lay4 Z N T st ln lt nb) {i : Nat} (hi : i < Z) : (((zt (zn (row0 Z N T st ln lt v) st ln N) lt T).set 1 0).set 2 0)[i]? = some 0 := by
  have hb := h.nb3; have hz := h.z; have hn := h.n
  by_cases e2 : i = 2
  · subst e2; rw [List.getElem?_set_self (by rw [List.length_set, zt_full]; exact hi)]
  rw [List.getElem?_set_ne (Ne.symm e2)]
  by_cases e1 : i = 1
  · subst e1; rw [List.getElem?_set_self (by rw [zt_full]; exact hi)]
  rw [List.getElem?_set_ne (Ne.symm e1), zt_eq]
  by_cases ht : ∃ j, j < T ∧ lt j = i
  · obtain ⟨j, hj, rfl⟩ := ht
    exact states_at _ _ _ _ _ hj (by rw [zn_len, row0_len]; exact hi)
  rw [states_other _ _ _ _ _ (fun j hj c => ht ⟨j, hj, c⟩)]
  by_cases hs : ∃ j, j < N ∧ (st j = i ∨ ln j = i)
  · exact zn_at _ _ _ _ (by rw [row0_len]; exact hi) _ hs
  rw [zn_other _ _ _ _ _ (fun j hj => ⟨fun c => hs ⟨j, hj, Or.inl c⟩, fun c => hs ⟨j, hj, Or.inr c⟩⟩)]
  exact row0_else h hi e1 e2 (fun j hj c => hs ⟨j, hj, Or.inl c⟩) (fun j hj c => hs ⟨j, hj, Or.inr c⟩) (fun j hj c => ht ⟨j, hj, c⟩)
theorem row0_zero (h : Lay4 Z N T st ln lt nb) : (row0 Z N T st ln lt v)[0]? = some 0 := by
  have hb := h.nb3; have hz := h.z; have hn := h.n
  exact row0_else h (by omega) (by omega) (by omega) (fun j hj => by have := h.st_ j; omega) (fun j hj => by have := h.ln_ j; omega) (fun j hj => by have := h.lt_ j; omega)
end
theorem state_word {F : Nat} (h : F < 2 ^ 32) : (packed [(32, (F : Int)), (30, 0), (2, 0)]).1 = F * 2 ^ 32 := by
  have e : laid [(32, (F : Int)), (30, 0), (2, 0)] 64 = some (F * 2 ^ 32) := by
    simp only [laid]
    simp
    omega
  rw [packed_some e]
theorem state_parts {F : Nat} (h : F < 2 ^ 32) : getN (F * 2 ^ 32) 32 32 = F ∧ getN (F * 2 ^ 32) 2 30 = 0 ∧ getN (F * 2 ^ 32) 0 2 = 0 := by
  unfold getN
  refine ⟨?_, ?_, ?_⟩ <;> omega
theorem head_parts : getN 1 32 32 = 0 ∧ ((getN 1 0 32 : Nat) : Int) - 1 = 0 := by decide
end Go.Proofs.Ytnkcekgjppkbpaa.Fresh
