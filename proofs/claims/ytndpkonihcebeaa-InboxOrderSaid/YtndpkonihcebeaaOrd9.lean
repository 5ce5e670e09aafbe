/- InboxOrder, without memory: of one worker's tickets the later one comes first. -/
import Derived.Test.YtndpkonihcebeaaTask9
namespace Go.Proofs.Ytndpkonihcebeaa.Kod.Nine
open Go.RowKit Go.Proofs.Ytndpkonihcebeaa Go.Proofs.Ytndpkonihcebeaa.Cell Go.Proofs.Ytndpkonihcebeaa.Wd
set_option linter.unusedVariables false
set_option linter.unusedSimpArgs false

/-- One that stands ahead of another one of the same worker was laid later. -/
def R9o (x y : Int) : Prop := x / 5 = y / 5 → y < x
/-- Where the last Drain ended. -/
def lastE : Nat → List Int → Nat
  | f, [] => f
  | _, e :: es => lastE e.toNat es
/-- What each Drain took out is in order. -/
def Sg (got : List Int) : Nat → List Int → Prop
  | _, [] => True
  | f, e :: es => f ≤ e.toNat ∧ 0 ≤ e ∧ e.toNat ≤ got.length ∧ (∀ i k : Nat, f ≤ k → k < i → i < e.toNat → got.getD k 0 / 5 = got.getD i 0 / 5 → got.getD i 0 < got.getD k 0) ∧ Sg got e.toNat es
theorem lastE_snoc (f : Nat) (es : List Int) (e : Int) : lastE f (es ++ [e]) = e.toNat := by
  induction es generalizing f with
  | nil => rfl
  | cons x es ih => exact ih x.toNat
theorem Sg.mono {got : List Int} (x : Int) : ∀ {f : Nat} {es : List Int}, Sg got f es → Sg (got ++ [x]) f es
  | _, [], _ => trivial
  | f, e :: es, h => by
    obtain ⟨h1, h2, h3, h4, h5⟩ := h
    refine ⟨h1, h2, by simp; omega, fun i k hk hki hi => ?_, h5.mono x⟩
    have e1 : ∀ j : Nat, j < got.length → (got ++ [x]).getD j 0 = got.getD j 0 := fun j hj => by
      rw [List.getD_eq_getElem?_getD, List.getD_eq_getElem?_getD, List.getElem?_append_left hj]
    rw [e1 k (by omega), e1 i (by omega)]
    exact h4 i k hk hki hi
theorem Sg.snoc {got : List Int} {n : Nat} : ∀ {f : Nat} {es : List Int}, Sg got f es → lastE f es ≤ n → n ≤ got.length → (∀ i k : Nat, lastE f es ≤ k → k < i → i < n → got.getD k 0 / 5 = got.getD i 0 / 5 → got.getD i 0 < got.getD k 0) → Sg got f (es ++ [(n : Int)])
  | f, [], _, h1, h2, h3 => ⟨by have h4 : f ≤ n := h1; simpa using h4, by omega, by simpa using h2, by simpa [lastE] using h3, trivial⟩
  | f, e :: es, h, h1, h2, h3 => ⟨h.1, h.2.1, h.2.2.1, h.2.2.2.1, h.2.2.2.2.snoc h1 h2 h3⟩
theorem pair_at {got : List Int} {m : Nat} (h : (got.drop m).Pairwise R9o) (i k : Nat) (h1 : m ≤ k) (h2 : k < i) (h3 : i < got.length) : got.getD k 0 / 5 = got.getD i 0 / 5 → got.getD i 0 < got.getD k 0 := by
  have h4 := List.pairwise_iff_getElem.1 h (k - m) (i - m) (by simp; omega) (by simp; omega) (by omega)
  simp only [List.getElem_drop] at h4
  have e1 : m + (k - m) = k := by omega
  have e2 : m + (i - m) = i := by omega
  rw [List.getD_eq_getElem?_getD, List.getD_eq_getElem?_getD, List.getElem?_eq_getElem h3, List.getElem?_eq_getElem (by omega)]
  simp only [Option.getD_some]
  simp only [e1, e2] at h4
  exact h4
structure Ord9 (A : Ab9) (ks : List K9) (τ : St R9) : Prop where
  i8 : I8 A ks τ
  bl : A.bl.Pairwise R9o
  cur : (A.got.drop (lastE 0 A.ends) ++ A.rl).Pairwise R9o
  le : lastE 0 A.ends ≤ A.got.length
  sg : Sg A.got 0 A.ends
  flat : ∀ k, ks[0]? = some k → phase k ≠ 1 → lastE 0 A.ends = A.got.length
  td : ∀ (p : Nat) (k : K9), ks[p + 1]? = some k → (todo k).Pairwise (· < ·) ∧ (∀ y ∈ todo k, y / 5 = (p : Int)) ∧ (∀ x ∈ A.bl, ∀ y ∈ todo k, x / 5 = y / 5 → x < y)
theorem todo_kput (d : Bool) (l : List Int) : todo (kput d l) = l := by cases l <;> rfl
theorem todo_kdr (o n : Nat) : todo (kdr o n) = [] := by cases n <;> rfl
theorem phase_kdr (o n : Nat) : phase (kdr o n) ≠ 1 := by cases n <;> simp [kdr, phase]
theorem flat_set {ks : List K9} {p : Nat} {k k' : K9} {P : Prop} (hk : ks[p]? = some k) (h : ∀ k, ks[0]? = some k → phase k ≠ 1 → P) (h2 : p = 0 → phase k' ≠ 1 → P) : ∀ k2, (ks.set p k')[0]? = some k2 → phase k2 ≠ 1 → P := fun k2 h3 h4 => by
  have hp := (List.getElem?_eq_some_iff.1 hk).1
  by_cases hp0 : p = 0
  · subst hp0
    simp [hp] at h3
    subst h3
    exact h2 rfl h4
  · rw [List.getElem?_set_ne hp0] at h3
    exact h k2 h3 h4
/-- What is still to be put, behind a step. -/
theorem td_set {ks : List K9} {p : Nat} {k k' : K9} {bl bl' : List Int} (hk : ks[p]? = some k) (h : ∀ (p : Nat) (k : K9), ks[p + 1]? = some k → (todo k).Pairwise (· < ·) ∧ (∀ y ∈ todo k, y / 5 = (p : Int)) ∧ (∀ x ∈ bl, ∀ y ∈ todo k, x / 5 = y / 5 → x < y)) (ht : todo k' = todo k) (hb : ∀ x ∈ bl', x ∈ bl) :
    ∀ (q : Nat) (k2 : K9), (ks.set p k')[q + 1]? = some k2 → (todo k2).Pairwise (· < ·) ∧ (∀ y ∈ todo k2, y / 5 = (q : Int)) ∧ (∀ x ∈ bl', ∀ y ∈ todo k2, x / 5 = y / 5 → x < y) := fun q k2 h2 => by
  have hp := (List.getElem?_eq_some_iff.1 hk).1
  by_cases hq : p = q + 1
  · subst hq
    simp [hp] at h2
    subst h2
    rw [ht]
    obtain ⟨h3, h4, h5⟩ := h q k hk
    exact ⟨h3, h4, fun x hx => h5 x (hb x hx)⟩
  · rw [List.getElem?_set_ne hq] at h2
    obtain ⟨h3, h4, h5⟩ := h q k2 h2
    exact ⟨h3, h4, fun x hx => h5 x (hb x hx)⟩
theorem keepOrd {all : List Int} : Keep9 all Ord9 := ⟨fun {N p A A' ks τ σ' k k'} M hI hk tr h1 h2 => by
  have h8 := keep8.step M hI.i8 hk tr h1 h2
  have hp := (List.getElem?_eq_some_iff.1 hk).1
  have hp0 : ∀ k0, k = k0 → (∃ d t l h, k0 = .putC d t l h) ∨ (∃ d t l h x, k0 = .putM d t l h x) ∨ (∃ d t l i h, k0 = .freC d t l i h) → p ≠ 0 := fun k0 e h e0 => by
    subst e0
    have hd := M.dr k hk
    rw [e] at hd
    rcases h with ⟨_, _, _, _, rfl⟩ | ⟨_, _, _, _, _, rfl⟩ | ⟨_, _, _, _, _, rfl⟩ <;> exact hd.elim
  cases tr with
  | stay h hp hl ht => exact ⟨h8, hI.bl, hI.cur, hI.le, hI.sg, flat_set hk hI.flat (fun e h3 => hI.flat k (by rw [← e]; exact hk) (by rw [← hp]; exact h3)), td_set hk hI.td ht (fun x hx => hx)⟩
  | @put d t l h A e he =>
    have hpp : p ≠ 0 := hp0 _ rfl (Or.inl ⟨d, t, l, h, rfl⟩)
    obtain ⟨q, rfl⟩ : ∃ q, p = q + 1 := ⟨p - 1, by omega⟩
    obtain ⟨t1, t2, t3⟩ := hI.td q _ hk
    simp only [todo, List.pairwise_cons] at t1
    have ht5 : t / 5 = (q : Int) := t2 t List.mem_cons_self
    refine ⟨h8, List.pairwise_cons.2 ⟨fun x hx e => t3 x hx t List.mem_cons_self e.symm, hI.bl⟩, hI.cur, hI.le, hI.sg, flat_set hk hI.flat (fun e => absurd e hpp), fun q2 k2 h2 => ?_⟩
    by_cases hq : q + 1 = q2 + 1
    · obtain rfl : q = q2 := by omega
      simp [hp] at h2
      subst h2
      rw [todo_kput]
      refine ⟨t1.2, fun y hy => t2 y (List.mem_cons_of_mem _ hy), fun x hx y hy e => ?_⟩
      rcases List.mem_cons.1 hx with rfl | hx
      · exact t1.1 y hy
      · exact t3 x hx y (List.mem_cons_of_mem _ hy) e
    · rw [List.getElem?_set_ne hq] at h2
      obtain ⟨u1, u2, u3⟩ := hI.td q2 k2 h2
      refine ⟨u1, u2, fun x hx y hy e => ?_⟩
      rcases List.mem_cons.1 hx with rfl | hx
      · have := u2 y hy
        omega
      · exact u3 x hx y hy e
  | @help d t l h x i A b hb hd =>
    have hpp : p ≠ 0 := hp0 _ rfl (Or.inr (Or.inl ⟨d, t, l, h, x, rfl⟩))
    have hbl := hI.bl
    rw [hb] at hbl
    exact ⟨h8, (List.pairwise_cons.1 hbl).2, hI.cur, hI.le, hI.sg, flat_set hk hI.flat (fun e => absurd e hpp), td_set hk hI.td rfl (fun x hx => by rw [hb]; exact List.mem_cons_of_mem _ hx)⟩
  | @free d t l h i A =>
    have hpp : p ≠ 0 := hp0 _ rfl (Or.inr (Or.inr ⟨d, t, l, i, h, rfl⟩))
    exact ⟨h8, hI.bl, hI.cur, hI.le, hI.sg, flat_set hk hI.flat (fun e => absurd e hpp), td_set hk hI.td rfl (fun x hx => hx)⟩
  | @take o n h f A hr =>
    have hp00 : p = 0 := by
      cases p with
      | zero => rfl
      | succ p => exact (M.pu p _ hk).elim
    subst hp00
    have hfl := hI.flat _ hk (by simp [phase])
    refine ⟨h8, List.Pairwise.nil, ?_, hI.le, hI.sg, flat_set hk hI.flat (fun _ e => absurd rfl e), td_set hk hI.td rfl (fun x hx => by simp at hx)⟩
    rw [hfl, List.drop_eq_nil_of_le (Nat.le_refl _)]
    exact hI.bl
  | @got o n f x A r hr =>
    have hle := hI.le
    have hp00 : p = 0 := by
      cases p with
      | zero => rfl
      | succ p => exact (M.pu p _ hk).elim
    subst hp00
    refine ⟨h8, hI.bl, ?_, by simp only [List.length_append, List.length_singleton]; omega, hI.sg.mono f, fun k2 h3 h4 => ?_, td_set hk hI.td rfl (fun x hx => hx)⟩
    · have h3 := hI.cur
      rw [hr] at h3
      rw [List.drop_append_of_le_length hle]
      simpa using h3
    · simp [hp] at h3
      subst h3
      exact absurd rfl h4
  | @stopL o n A hb hr =>
    have hc := hI.cur
    rw [hr, List.append_nil] at hc
    refine ⟨h8, hI.bl, ?_, ?_, hI.sg.snoc hI.le (Nat.le_refl _) (pair_at hc), flat_set hk ?_ ?_, td_set hk hI.td (todo_kdr _ _) (fun x hx => hx)⟩
    all_goals simp only [lastE_snoc, Int.toNat_natCast]
    · rw [hr, List.drop_eq_nil_of_le (Nat.le_refl _)]
      exact List.Pairwise.nil
    · exact Nat.le_refl _
    · exact fun _ _ _ => trivial
    · exact fun _ _ => trivial
  | @stopI o n x A hr =>
    have hc := hI.cur
    rw [hr, List.append_nil] at hc
    refine ⟨h8, hI.bl, ?_, ?_, hI.sg.snoc hI.le (Nat.le_refl _) (pair_at hc), flat_set hk ?_ ?_, td_set hk hI.td (todo_kdr _ _) (fun x hx => hx)⟩
    all_goals simp only [lastE_snoc, Int.toNat_natCast]
    · rw [hr, List.drop_eq_nil_of_le (Nat.le_refl _)]
      exact List.Pairwise.nil
    · exact Nat.le_refl _
    · exact fun _ _ _ => trivial
    · exact fun _ _ => trivial⟩
theorem nums9_sorted (b : Int) (k : Nat) : (nums9 b k).Pairwise (· < ·) := by
  induction k with
  | zero => exact List.Pairwise.nil
  | succ k ih =>
    rw [nums9_succ, List.pairwise_append]
    refine ⟨ih, List.pairwise_singleton _ _, fun x hx y hy => ?_⟩
    have := nums9_mem hx
    simp at hy
    omega
theorem ord_start {ms : List Nat} (hm : ∀ j, ms.getD j 0 ≤ 5) {nd : Nat} (h : nd ≤ 8) {τ : St R9} : Ord9 ⟨[], [], [], [], [], []⟩ (kms (kdr 0 nd) ms 4) τ := by
  refine ⟨i8_start (by omega), List.Pairwise.nil, List.Pairwise.nil, Nat.le_refl _, trivial, fun _ _ _ => rfl, fun p k hk => ?_⟩
  obtain ⟨_, rfl⟩ := kms_at hk
  rw [todo_kput]
  refine ⟨nums9_sorted _ _, fun y hy => ?_, fun x hx => by simp at hx⟩
  have h1 := nums9_mem hy
  have h2 := hm p
  omega
theorem Nd9.elen {a b ba bn B g ob : Nat} {bl fl all got ends : List Int} {I : Ab9 → Prop} {zs : List (Option Addr × List Value)} {w0 wr : World} (h : Nd9 a b ba bn B g ob bl fl I all got ends zs w0 wr) : ends.length ≤ maxLen := by
  obtain ⟨ks, τ, ts, Z, hG, h1, h2, h3, h4, h5, h6, _⟩ := h.ex
  obtain ⟨A, c, A', c', q1, q2, q3, q4⟩ := Grp.got9 (o := 0) (g := ob) (y := (got, ends)) hG rfl (by rw [h4]; rfl)
  obtain ⟨d1, d2, d3, d4⟩ := row_dims9 q4
  exact Nat.le_trans d3 d4
end Go.Proofs.Ytndpkonihcebeaa.Kod.Nine
