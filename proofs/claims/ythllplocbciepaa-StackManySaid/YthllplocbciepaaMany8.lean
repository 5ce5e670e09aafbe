/- Layer 8, StackMany, without memory: however steps are picked, each thing is in the stack or in one task's hands. -/
import Derived.Test.YthllplocbciepaaAny8
import Derived.Test.YthllplocbciepaaBackI
namespace Go.Proofs.Ythllplocbciepaa.Kod.Eight
open Go.RowKit Go.Proofs.Ythllplocbciepaa Go.Proofs.Ythllplocbciepaa.Cell Go.Proofs.Ythllplocbciepaa.Wd
set_option linter.unusedVariables false
set_option linter.unusedSimpArgs false
variable {a b : Nat} {gb : Nat → Nat}

/-- What a task that is under way knows is right, as long as the head is what it read. -/
def Okk (xs : List Int) : K8 → Prop
  | .popN _ _ h => ct h ≤ ct (xs.getD 0 0)
  | .popC _ _ h y => ct h ≤ ct (xs.getD 0 0) ∧ (xs.getD 0 0 = h → y = xs.getD (ix h + 1).toNat 0)
  | .pshS _ _ _ h => ct h ≤ ct (xs.getD 0 0)
  | .pshC _ _ i h => ct h ≤ ct (xs.getD 0 0) ∧ (xs.getD 0 0 = h → xs.getD (i + 1).toNat 0 = ix h + 1)
  | _ => True
theorem Fr.okk {xs : List Int} {k : K8} (h : Fr k) : Okk xs k := by
  cases k <;> simp_all [Fr, Okk]
theorem Okk.bump {xs xs' : List Int} {k : K8} (h : Okk xs k) (hc : ct (xs'.getD 0 0) = ct (xs.getD 0 0) + 1) : Okk xs' k := by
  cases k with
  | popN j l h0 => simp only [Okk] at h ⊢; omega
  | popC j l h0 y =>
    simp only [Okk] at h ⊢
    refine ⟨by omega, fun e => ?_⟩
    rw [e] at hc
    omega
  | pshS j l i h0 => simp only [Okk] at h ⊢; omega
  | pshC j l i h0 =>
    simp only [Okk] at h ⊢
    refine ⟨by omega, fun e => ?_⟩
    rw [e] at hc
    omega
  | _ => trivial
theorem ct_turn {old first : Int} (h0 : 0 ≤ old) (h : ct old + 1 < 4294967296) (h1 : -1 ≤ first) (h2 : first < 4294967295) : ct (turnTo old first) = ct old + 1 ∧ 0 ≤ turnTo old first := by
  unfold turnTo
  rw [if_pos ⟨h1, h2⟩]
  have : 0 ≤ ct old := by unfold ct; omega
  rw [Int.emod_eq_of_lt (by omega) h]
  unfold ct at *
  omega
/-- All hands. -/
def allHands (r : List W8) : List Int := (r.map (·.hands)).flatten
theorem hands_set : ∀ (r : List W8) (j : Nat) (x : W8), r[j]? = some x → ∃ A B, allHands r = A ++ x.hands ++ B ∧ ∀ y, allHands (r.set j y) = A ++ y.hands ++ B
  | [], j, x, h => by simp at h
  | z :: r, 0, x, h => by
    obtain rfl : z = x := by simpa using h
    exact ⟨[], allHands r, by simp [allHands], fun y => by simp [allHands]⟩
  | z :: r, j + 1, x, h => by
    obtain ⟨A, B, h1, h2⟩ := hands_set r j x (by simpa using h)
    refine ⟨z.hands ++ A, B, ?_, fun y => ?_⟩
    · show z.hands ++ allHands r = _
      rw [h1]
      simp
    · show z.hands ++ allHands (r.set j y) = _
      rw [h2]
      simp
/-- However steps were picked: s is in the stack. -/
structure Many (K N : Nat) (s : List Int) (ks : List K8) (τ : St (List W8)) : Prop where
  all : All8 1 ks τ
  stk : Stk τ.xs s
  len : τ.xs.length = 1 + K
  perm : (s ++ allHands τ.r).Perm (nums K)
  cnt : 0 ≤ τ.xs.getD 0 0 ∧ ct (τ.xs.getD 0 0) + N < 4294967296
  ok : ∀ (p : Nat) (k : K8), ks[p]? = some k → Okk τ.xs k
  right : ∀ (p : Nat) (x : W8), τ.r[p]? = some x → x.wrong = false
  fst : ∀ x : W8, τ.r[0]? = some x → x.hands = []
theorem Many.next {K N : Nat} {s s' : List Int} {ks : List K8} {τ τ' : St (List W8)} {p : Nat} {k k' : K8} {x x' : W8} (h : Many K (N + 1) s ks τ) (hk : ks[p]? = some k) (hx : τ.r[p + 1]? = some x) (hr : τ'.r = τ.r.set (p + 1) x') (ht : Tk (p + 1) x' k') (hf : Fine x' (acts k')) (ha : acts k' ≤ acts k)
    (hstk : Stk τ'.xs s') (hlen : τ'.xs.length = τ.xs.length) (hperm : (s' ++ x'.hands).Perm (s ++ x.hands)) (hcnt : 0 ≤ τ'.xs.getD 0 0 ∧ ct (τ'.xs.getD 0 0) ≤ ct (τ.xs.getD 0 0) + 1) (hok : Okk τ'.xs k') (hoth : ∀ (q : Nat) (k2 : K8), q ≠ p → ks[q]? = some k2 → Okk τ'.xs k2) (hw : x'.wrong = false) : Many K N s' (ks.set p k') τ' := by
  have hp : p < ks.length := (List.getElem?_eq_some_iff.1 hk).1
  have hpr : p + 1 < τ.r.length := (List.getElem?_eq_some_iff.1 hx).1
  refine ⟨⟨?_, ?_, fun q k2 y h1 h2 => ?_, fun k2 h2 => ?_⟩, hstk, hlen.trans h.len, ?_, ⟨hcnt.1, by have := h.cnt.2; omega⟩, fun q k2 h2 => ?_, fun q y hy => ?_, fun y hy => by rw [hr, List.getElem?_set_ne (by omega)] at hy; exact h.fst y hy⟩
  · rw [hr]
    simpa using h.all.len
  · rw [hlen]
    exact h.all.pos
  · rw [hr] at h2
    by_cases hq : p = q
    · subst hq
      simp [hp] at h1
      simp [hpr] at h2
      subst h1 h2
      exact ⟨ht, hf⟩
    · rw [List.getElem?_set_ne hq] at h1
      rw [List.getElem?_set_ne (by omega)] at h2
      exact h.all.tk q k2 y h1 h2
  · rcases List.mem_or_eq_of_mem_set h2 with h2 | rfl
    · exact h.all.few k2 h2
    · exact Nat.le_trans ha (h.all.few k (List.mem_of_getElem? hk))
  · obtain ⟨A, B, e1, e2⟩ := hands_set τ.r (p + 1) x hx
    have h1 := h.perm
    rw [hr, e2]
    rw [e1] at h1
    refine List.Perm.trans ?_ h1
    rw [List.perm_iff_count] at hperm ⊢
    intro z
    have := hperm z
    simp only [List.count_append] at this ⊢
    omega
  · by_cases hq : p = q
    · subst hq
      simp [hp] at h2
      subst h2
      exact hok
    · rw [List.getElem?_set_ne hq] at h2
      exact hoth q k2 (Ne.symm hq) h2
  · rw [hr] at hy
    by_cases hq : p + 1 = q
    · subst hq
      simp [hpr] at hy
      subst hy
      exact hw
    · rw [List.getElem?_set_ne hq] at hy
      exact h.right q y hy
theorem Many.nodup {K N : Nat} {s : List Int} {ks : List K8} {τ : St (List W8)} (h : Many K N s ks τ) : (s ++ allHands τ.r).Nodup := h.perm.nodup_iff.2 (nums_once K)
theorem mem_hands {r : List W8} {j : Nat} {x : W8} {i : Int} (hx : r[j]? = some x) (hi : i ∈ x.hands) : i ∈ allHands r := by
  obtain ⟨A, B, e1, _⟩ := hands_set r j x hx
  rw [e1]
  simp [hi]
theorem Many.rng {K N : Nat} {s : List Int} {ks : List K8} {τ : St (List W8)} (h : Many K N s ks τ) {i : Int} (hi : i ∈ s ++ allHands τ.r) : 0 ≤ i ∧ i < K := nums_rng (h.perm.mem_iff.1 hi)
theorem Many.apart {K N : Nat} {s : List Int} {ks : List K8} {τ : St (List W8)} (h : Many K N s ks τ) {j : Nat} {x : W8} {i : Int} (hx : τ.r[j]? = some x) (hi : i ∈ x.hands) : i ∉ s := fun hs => by
  have := List.nodup_append.1 h.nodup
  exact this.2.2 i hs i (mem_hands hx hi) rfl
theorem hands_apart : ∀ {r : List W8} {j q : Nat} {x y : W8} {i : Int}, (allHands r).Nodup → r[j]? = some x → r[q]? = some y → i ∈ x.hands → i ∈ y.hands → j = q
  | [], j, q, x, y, i, _, h, _, _, _ => by simp at h
  | z :: r, 0, 0, x, y, i, _, _, _, _, _ => rfl
  | z :: r, 0, q + 1, x, y, i, hn, h1, h2, h3, h4 => by
    obtain rfl : z = x := by simpa using h1
    have hn' : (z.hands ++ allHands r).Nodup := hn
    exact absurd rfl ((List.nodup_append.1 hn').2.2 i h3 i (mem_hands (by simpa using h2) h4))
  | z :: r, j + 1, 0, x, y, i, hn, h1, h2, h3, h4 => by
    obtain rfl : z = y := by simpa using h2
    have hn' : (z.hands ++ allHands r).Nodup := hn
    exact absurd rfl ((List.nodup_append.1 hn').2.2 i h4 i (mem_hands (by simpa using h1) h3))
  | z :: r, j + 1, q + 1, x, y, i, hn, h1, h2, h3, h4 => by
    have hn' : (z.hands ++ allHands r).Nodup := hn
    exact congrArg (· + 1) (hands_apart (List.nodup_append.1 hn').2.1 (by simpa using h1) (by simpa using h2) h3 h4)
/-- A cell that is read, there or not. -/
theorem ld_getD (σ : St (List W8)) {i : Int} (h0 : 0 ≤ i) : (σ.ld i).1 = σ.xs.getD i.toNat 0 ∧ (σ.ld i).2.xs = σ.xs ∧ (σ.ld i).2.r = σ.r ∧ (σ.ld i).2.c ≤ σ.c + 1 := by
  by_cases h : i.toNat < σ.xs.length
  · rw [ld_at σ h0 (by omega)]
    exact ⟨rfl, rfl, rfl, by simp⟩
  · have e : σ.ld i = (0, σ) := by
      unfold St.ld
      rw [dif_neg (fun e => h e.2)]
    rw [e, List.getD_eq_getElem?_getD, List.getElem?_eq_none (by omega)]
    exact ⟨rfl, rfl, rfl, by show σ.c ≤ σ.c + 1; omega⟩
theorem Many.lower {K N N' : Nat} {s : List Int} {ks : List K8} {τ : St (List W8)} (h : Many K N s ks τ) (hn : N' ≤ N) : Many K N' s ks τ :=
  ⟨h.all, h.stk, h.len, h.perm, ⟨h.cnt.1, by have := h.cnt.2; omega⟩, h.ok, h.right, h.fst⟩
/-- A step's outcome. -/
def Fares (K N p : Nat) (ks : List K8) (τ : St (List W8)) (k : K8) : Prop := ∃ s' k' σ', next8 k (bump τ p) = some (k', σ') ∧ Many K N s' (ks.set p k') σ' ∧ σ'.c ≤ τ.c + 1
section
variable {K N p : Nat} {s : List Int} {ks : List K8} {τ : St (List W8)} {x : W8} {l : List Bool} {i h0 y : Int}
theorem Many.popL (h : Many K (N + 1) s ks τ) (hk : ks[p]? = some (.popL (p + 1) l)) (hx : τ.r[p + 1]? = some x) (hf : Fine x (l.length + 1)) (hb : s = [] → x.bare = true) : Fares K N p ks τ (.popL (p + 1) l) := by
  have hxs : (bump τ p).xs = τ.xs := rfl
  have hrr : (bump τ p).r = τ.r := rfl
  cases s with
  | nil =>
    have hn := popL_nil (j := p + 1) (l := l) (τ := bump τ p) h.stk
    obtain ⟨k', x', h1, h2, h3, h4, h5, h6, h7, h8⟩ := popped_any (j := p + 1) (l := l) (i := -1) (ok := false) (σ := { bump τ p with c := (bump τ p).c + 1 }) hx hf (by simp)
    refine ⟨[], k', _, hn.trans h1, h.next (p := p) (k := .popL (p + 1) l) (x := x) (x' := x') hk hx rfl h2 h3 (Nat.le_succ_of_le h7) h.stk rfl (by rw [h4]; exact List.Perm.refl _) ⟨h.cnt.1, by show ct (τ.xs.getD 0 0) ≤ _; omega⟩ h8.okk (fun q k2 hq hk2 => h.ok q k2 hk2) ?_, by show τ.c + 1 ≤ _; omega⟩
    rw [h5]
    have := h.right _ _ hx
    simp [told, this, hb rfl]
  | cons i t =>
    have hn := popL_cons (j := p + 1) (l := l) (τ := bump τ p) (i := i) (t := t) h.stk
    have hpop := h.stk.pop
    have hi := h.stk.mem i List.mem_cons_self
    have he : ix (τ.xs.getD 0 0) = i := hpop.1
    exact ⟨i :: t, _, _, hn, h.next (p := p) (k := .popL (p + 1) l) (x := x) (x' := x) hk hx (set_id hx).symm ⟨rfl, by show 0 ≤ ix (τ.xs.getD 0 0); omega⟩ hf (Nat.le_refl _) h.stk rfl (List.Perm.refl _) ⟨h.cnt.1, by show ct (τ.xs.getD 0 0) ≤ _; omega⟩ (by show ct (τ.xs.getD 0 0) ≤ ct (τ.xs.getD 0 0); omega) (fun q k2 hq hk2 => h.ok q k2 hk2) (h.right _ _ hx), by show τ.c + 1 ≤ _; omega⟩
theorem Many.popN (h : Many K (N + 1) s ks τ) (hk : ks[p]? = some (.popN (p + 1) l h0)) (hx : τ.r[p + 1]? = some x) (hf : Fine x (l.length + 1)) (hi : 0 ≤ ix h0) : Fares K N p ks τ (.popN (p + 1) l h0) := by
  have hlk : lk1 (ix h0) = ix h0 + 1 := by unfold lk1; omega
  obtain ⟨e1, e2, e3, e4⟩ := ld_getD (bump τ p) (i := lk1 (ix h0)) (by omega)
  have hok := h.ok p _ hk
  simp only [Okk] at hok
  refine ⟨s, _, _, rfl, h.next (p := p) (k := .popN (p + 1) l h0) (x := x) (x' := x) hk hx (by rw [e3]; exact (set_id hx).symm) ⟨rfl, hi⟩ hf (Nat.le_refl _) (by rw [e2]; exact h.stk) (by rw [e2]; rfl) (List.Perm.refl _) (by rw [e2]; exact ⟨h.cnt.1, by show ct (τ.xs.getD 0 0) ≤ _; omega⟩) ?_ (fun q k2 hq hk2 => by rw [e2]; exact h.ok q k2 hk2) (h.right _ _ hx), e4⟩
  rw [e2]
  simp only [Okk]
  refine ⟨hok, fun _ => ?_⟩
  rw [e1, hlk]
theorem Many.popC (h : Many K (N + 1) s ks τ) (hK : K ≤ 100) (hk : ks[p]? = some (.popC (p + 1) l h0 y)) (hx : τ.r[p + 1]? = some x) (hf : Fine x (l.length + 1)) (hi : 0 ≤ ix h0) : Fares K N p ks τ (.popC (p + 1) l h0 y) := by
  have hok := h.ok p _ hk
  simp only [Okk] at hok
  by_cases he : τ.xs.getD 0 0 = h0
  · cases s with
    | nil =>
      have h2 : ix (τ.xs.getD 0 0) = -1 := h.stk.chain
      rw [he] at h2
      omega
    | cons i t =>
      have hpop := h.stk.pop
      have hip : ix (τ.xs.getD 0 0) = i := hpop.1
      have hy : y = τ.xs.getD (i + 1).toNat 0 := by rw [hok.2 he, ← hip, he]
      have hn := popC_at (j := p + 1) (l := l) (τ := bump τ p) (i := i) (t := t) (h0 := h0) (x0 := y) h.stk he.symm hy
      have hmem := h.stk.mem i List.mem_cons_self
      obtain ⟨_, _, _, c3, c4, c5⟩ := h.stk.chain
      have hlen := h.len
      have hnx : -1 ≤ nx (τ.xs.getD (i + 1).toNat 0) ∧ nx (τ.xs.getD (i + 1).toNat 0) < 4294967295 := by
        rw [nx_small c3 (by omega)]
        omega
      have hct := ct_turn (old := τ.xs.getD 0 0) (first := nx (τ.xs.getD (i + 1).toNat 0)) h.cnt.1 (by have := h.cnt.2; omega) hnx.1 hnx.2
      obtain ⟨v, hv⟩ : ∃ v, v = turnTo (τ.xs.getD 0 0) (nx (τ.xs.getD (i + 1).toNat 0)) := ⟨_, rfl⟩
      rw [← hv] at hct
      have hx2 : (τ.xs.set 0 v).getD 0 0 = v := getD_set_self _ _ _ h.stk.pos
      obtain ⟨k', x', h1, h2, h3, h4, h5, h6, h7, h8⟩ := popped_any (j := p + 1) (l := l) (i := i) (ok := true) (σ := { bump τ p with c := (bump τ p).c + 1, xs := τ.xs.set 0 v }) hx hf (fun _ => by omega)
      have hn2 : next8 (.popC (p + 1) l h0 y) (bump τ p) = popped (p + 1) l i true { bump τ p with c := (bump τ p).c + 1, xs := τ.xs.set 0 v } := by rw [hn, hv]; rfl
      refine ⟨t, k', _, hn2.trans h1, h.next (p := p) (k := .popC (p + 1) l h0 y) (x := x) (x' := x') hk hx rfl h2 h3 (Nat.le_succ_of_le h7) ?_ (by simp) ?_ ?_ h8.okk (fun q k2 hq hk2 => ?_) ?_, by show τ.c + 1 ≤ _; omega⟩
      · show Stk (τ.xs.set 0 v) t
        rw [hv]
        exact hpop.2
      · rw [h4]
        show (t ++ (x.hands ++ [i])).Perm (i :: t ++ x.hands)
        rw [← List.append_assoc]
        exact List.perm_append_singleton i (t ++ x.hands)
      · show 0 ≤ (τ.xs.set 0 v).getD 0 0 ∧ ct ((τ.xs.set 0 v).getD 0 0) ≤ _
        rw [hx2]
        omega
      · exact (h.ok q k2 hk2).bump (by show ct ((τ.xs.set 0 v).getD 0 0) = _; rw [hx2]; exact hct.1)
      · rw [h5]
        have := h.right _ _ hx
        simp [told, this, hmem.1]
  · have hc := cas_miss (τ := bump τ p) (v := turnTo h0 (nx y)) (old := h0) h.stk.pos he
    refine ⟨s, .popL (p + 1) l, { bump τ p with c := (bump τ p).c + 1 }, ?_, h.next (p := p) (k := .popC (p + 1) l h0 y) (x := x) (x' := x) hk hx (set_id hx).symm rfl hf (Nat.le_refl _) h.stk rfl (List.Perm.refl _) ⟨h.cnt.1, by show ct (τ.xs.getD 0 0) ≤ _; omega⟩ trivial (fun q k2 hq hk2 => h.ok q k2 hk2) (h.right _ _ hx), by show τ.c + 1 ≤ _; omega⟩
    show (if ((bump τ p).cas 0 h0 (turnTo h0 (nx y))).1 then _ else _) = _
    rw [hc]
    rfl
theorem Many.pshL (h : Many K (N + 1) s ks τ) (hk : ks[p]? = some (.pshL (p + 1) l i)) (hx : τ.r[p + 1]? = some x) (hf : Fine x (l.length + 1)) (hi : x.hands.getLast? = some i) : Fares K N p ks τ (.pshL (p + 1) l i) := by
  have hn := pshL_at (j := p + 1) (l := l) (i := i) (τ := bump τ p) h.stk.pos
  exact ⟨s, _, _, hn, h.next (p := p) (k := .pshL (p + 1) l i) (x := x) (x' := x) hk hx (set_id hx).symm ⟨rfl, hi⟩ hf (Nat.le_refl _) h.stk rfl (List.Perm.refl _) ⟨h.cnt.1, by show ct (τ.xs.getD 0 0) ≤ _; omega⟩ (by show ct (τ.xs.getD 0 0) ≤ ct (τ.xs.getD 0 0); omega) (fun q k2 hq hk2 => h.ok q k2 hk2) (h.right _ _ hx), by show τ.c + 1 ≤ _; omega⟩
theorem Many.pshS (h : Many K (N + 1) s ks τ) (hk : ks[p]? = some (.pshS (p + 1) l i h0)) (hx : τ.r[p + 1]? = some x) (hf : Fine x (l.length + 1)) (hi : x.hands.getLast? = some i) : Fares K N p ks τ (.pshS (p + 1) l i h0) := by
  have him : i ∈ x.hands := List.mem_of_getLast? hi
  have hr := h.rng (List.mem_append_right _ (mem_hands hx him))
  have hlen := h.len
  have hn := pshS_at (j := p + 1) (l := l) (i := i) (h0 := h0) (τ := bump τ p) hr.1 (by show i + 1 < (τ.xs.length : Int); omega)
  have hok := h.ok p _ hk
  simp only [Okk] at hok
  obtain ⟨n, hn0⟩ : ∃ n, n = (i + 1).toNat := ⟨_, rfl⟩
  have hn1 : n ≠ 0 := by omega
  have hn2 : n < τ.xs.length := by omega
  have e0 : (τ.xs.set n (ix h0 + 1)).getD 0 0 = τ.xs.getD 0 0 := getD_set _ _ _ _ hn1
  have hap := h.apart hx him
  have hst : Stk (τ.xs.set n (ix h0 + 1)) s := ⟨by simpa using h.stk.pos, by simpa using h.stk.few, by
    rw [e0]
    refine h.stk.chain.set fun q hq => ?_
    have h2 := (h.stk.mem q hq).1
    have h3 : q ≠ i := fun e => hap (e ▸ hq)
    omega, h.stk.once⟩
  rw [← hn0] at hn
  refine ⟨s, _, _, hn, h.next (p := p) (k := .pshS (p + 1) l i h0) (x := x) (x' := x) hk hx (set_id hx).symm ⟨rfl, hi⟩ hf (Nat.le_refl _) hst (by simp [bump]) (List.Perm.refl _) (by show 0 ≤ (τ.xs.set n (ix h0 + 1)).getD 0 0 ∧ ct ((τ.xs.set n (ix h0 + 1)).getD 0 0) ≤ _; rw [e0]; exact ⟨h.cnt.1, by omega⟩) ?_ (fun q k2 hq hk2 => ?_) (h.right _ _ hx), by show τ.c + 1 ≤ _; omega⟩
  · show ct ((τ.xs.set n (ix h0 + 1)).getD 0 0 |> fun _ => h0) ≤ ct ((τ.xs.set n (ix h0 + 1)).getD 0 0) ∧ ((τ.xs.set n (ix h0 + 1)).getD 0 0 = h0 → (τ.xs.set n (ix h0 + 1)).getD (i + 1).toNat 0 = ix h0 + 1)
    rw [e0]
    refine ⟨hok, fun _ => ?_⟩
    rw [← hn0]
    exact getD_set_self _ _ _ hn2
  · have h2 := h.ok q k2 hk2
    show Okk (τ.xs.set n (ix h0 + 1)) k2
    cases k2 with
    | popN j2 l2 h3 => simp only [Okk] at h2 ⊢; rw [e0]; exact h2
    | pshS j2 l2 i2 h3 => simp only [Okk] at h2 ⊢; rw [e0]; exact h2
    | popC j2 l2 h3 y3 =>
      simp only [Okk] at h2 ⊢
      rw [e0]
      refine ⟨h2.1, fun e => ?_⟩
      rw [h2.2 e]
      have htk := h.all.tk q _ (τ.r[q + 1]'(by have := h.all.len; have := (List.getElem?_eq_some_iff.1 hk2).1; omega)) hk2 (List.getElem?_eq_getElem _)
      have hi3 : 0 ≤ ix h3 := htk.1.2
      rw [getD_set]
      intro e2
      cases s with
      | nil =>
        have h4 : ix (τ.xs.getD 0 0) = -1 := h.stk.chain
        rw [e] at h4
        omega
      | cons j t =>
        have h4 : ix (τ.xs.getD 0 0) = j := h.stk.pop.1
        rw [e] at h4
        have h5 : j = i := by omega
        exact hap (h5 ▸ List.mem_cons_self)
    | pshC j2 l2 i2 h3 =>
      simp only [Okk] at h2 ⊢
      rw [e0]
      refine ⟨h2.1, fun e => ?_⟩
      have hq2 : q + 1 < τ.r.length := by have := h.all.len; have := (List.getElem?_eq_some_iff.1 hk2).1; omega
      have htk := h.all.tk q _ (τ.r[q + 1]'hq2) hk2 (List.getElem?_eq_getElem _)
      have hm2 : i2 ∈ (τ.r[q + 1]'hq2).hands := List.mem_of_getLast? htk.1.2
      have hr2 := h.rng (List.mem_append_right _ (mem_hands (List.getElem?_eq_getElem hq2) hm2))
      rw [getD_set]
      · exact h2.2 e
      · intro e2
        have h5 : i2 = i := by omega
        subst h5
        have := hands_apart (List.nodup_append.1 h.nodup).2.1 (List.getElem?_eq_getElem hq2) hx hm2 him
        omega
    | done => trivial
    | popL _ _ => trivial
    | pshL _ _ _ => trivial
theorem Many.pshC (h : Many K (N + 1) s ks τ) (hK : K ≤ 100) (hk : ks[p]? = some (.pshC (p + 1) l i h0)) (hx : τ.r[p + 1]? = some x) (hf : Fine x (l.length + 1)) (hi : x.hands.getLast? = some i) : Fares K N p ks τ (.pshC (p + 1) l i h0) := by
  have him : i ∈ x.hands := List.mem_of_getLast? hi
  have hr := h.rng (List.mem_append_right _ (mem_hands hx him))
  have hlen := h.len
  have hok := h.ok p _ hk
  simp only [Okk] at hok
  by_cases he : τ.xs.getD 0 0 = h0
  · have hn := pshC_at (j := p + 1) (l := l) (i := i) (τ := bump τ p) (h0 := h0) h.stk.pos he
    have hct := ct_turn (old := h0) (first := i) (by rw [← he]; exact h.cnt.1) (by rw [← he]; have := h.cnt.2; omega) (by omega) (by omega)
    obtain ⟨v, hv⟩ : ∃ v, v = turnTo h0 i := ⟨_, rfl⟩
    rw [← hv] at hct
    have hx2 : (τ.xs.set 0 v).getD 0 0 = v := getD_set_self _ _ _ h.stk.pos
    have hpush := h.stk.push hr.1 (by omega) (h.apart hx him)
    have hsame : τ.xs.set (i + 1).toNat (ix (τ.xs.getD 0 0) + 1) = τ.xs := by
      have h1 : (i + 1).toNat < τ.xs.length := by omega
      have h2 := hok.2 he
      rw [List.getD_eq_getElem?_getD, List.getElem?_eq_getElem h1] at h2
      have h3 : τ.xs[(i + 1).toNat] = ix h0 + 1 := h2
      rw [he, ← h3]
      exact List.set_getElem_self h1
    rw [hsame, he, ← hv] at hpush
    obtain ⟨k', x', h1, h2, h3, h4, h5, h6, h7, h8⟩ := pushed_any (j := p + 1) (l := l) (i := i) (σ := { bump τ p with c := (bump τ p).c + 1, xs := τ.xs.set 0 v }) hx hf hi
    have hn2 : next8 (.pshC (p + 1) l i h0) (bump τ p) = pushed (p + 1) l { bump τ p with c := (bump τ p).c + 1, xs := τ.xs.set 0 v } := by rw [hn, hv]; rfl
    refine ⟨i :: s, k', _, hn2.trans h1, h.next (p := p) (k := .pshC (p + 1) l i h0) (x := x) (x' := x') hk hx rfl h2 h3 (Nat.le_succ_of_le h7) hpush (by simp) ?_ ?_ h8.okk (fun q k2 hq hk2 => ?_) ?_, by show τ.c + 1 ≤ _; omega⟩
    · rw [h4]
      have hsp := last_split hi
      obtain ⟨H, hH⟩ : ∃ H, H = x.hands.dropLast := ⟨_, rfl⟩
      rw [← hH] at hsp ⊢
      rw [hsp]
      show (i :: s ++ H).Perm (s ++ (H ++ [i]))
      rw [← List.append_assoc]
      exact (List.perm_append_singleton i (s ++ H)).symm
    · show 0 ≤ (τ.xs.set 0 v).getD 0 0 ∧ ct ((τ.xs.set 0 v).getD 0 0) ≤ _
      rw [hx2, he]
      omega
    · exact (h.ok q k2 hk2).bump (by show ct ((τ.xs.set 0 v).getD 0 0) = _; rw [hx2, he]; exact hct.1)
    · rw [h5]
      exact h.right _ _ hx
  · have hc := cas_miss (τ := bump τ p) (v := turnTo h0 i) (old := h0) h.stk.pos he
    refine ⟨s, .pshL (p + 1) l i, { bump τ p with c := (bump τ p).c + 1 }, ?_, h.next (p := p) (k := .pshC (p + 1) l i h0) (x := x) (x' := x) hk hx (set_id hx).symm ⟨rfl, hi⟩ hf (Nat.le_refl _) h.stk rfl (List.Perm.refl _) ⟨h.cnt.1, by show ct (τ.xs.getD 0 0) ≤ _; omega⟩ trivial (fun q k2 hq hk2 => h.ok q k2 hk2) (h.right _ _ hx), by show τ.c + 1 ≤ _; omega⟩
    show (if ((bump τ p).cas 0 h0 (turnTo h0 i)).1 then _ else _) = _
    rw [hc]
    rfl
end
/-- A step of task p. -/
theorem Many.step {K N : Nat} {s : List Int} {ks : List K8} {τ : St (List W8)} (h : Many K (N + 1) s ks τ) (hK : K ≤ 100) (p : Nat) (hb : ∀ (q : Nat) (x : W8), τ.r[q + 1]? = some x → s = [] → x.bare = true) (ho : (Eight.mk a b gb ks τ).over p = false) :
    ∃ s' ks' τ', (Eight.mk a b gb ks τ).step p = Eight.mk a b gb ks' τ' ∧ Many K N s' ks' τ' ∧ τ'.c ≤ τ.c + 1 := by
  cases hk : ks[p]? with
  | none =>
    unfold Mach.over at ho
    have : (Eight.mk a b gb ks τ).ks[p]? = none := hk
    rw [this] at ho
    simp at ho
  | some k =>
    have hp : p < ks.length := (List.getElem?_eq_some_iff.1 hk).1
    have hpr : p + 1 < τ.r.length := by rw [← h.all.len]; omega
    have hx : τ.r[p + 1]? = some τ.r[p + 1] := List.getElem?_eq_getElem hpr
    obtain ⟨ht, hf⟩ := h.all.tk p k _ hk hx
    rw [over_k hk] at ho
    have hfar : Fares K N p ks τ k := by
      cases k with
      | done => simp [S8] at ho
      | popL j l => obtain rfl : j = p + 1 := ht; exact h.popL hk hx hf (hb p _ hx)
      | popN j l h0 => obtain ⟨rfl, hi⟩ := ht; exact h.popN hk hx hf hi
      | popC j l h0 y => obtain ⟨rfl, hi⟩ := ht; exact h.popC hK hk hx hf hi
      | pshL j l i => obtain ⟨rfl, hi⟩ := ht; exact h.pshL hk hx hf hi
      | pshS j l i h0 => obtain ⟨rfl, hi⟩ := ht; exact h.pshS hk hx hf hi
      | pshC j l i h0 => obtain ⟨rfl, hi⟩ := ht; exact h.pshC hK hk hx hf hi
    obtain ⟨s', k', σ', h1, h2, h3⟩ := hfar
    refine ⟨s', ks.set p k', σ', ?_, h2, h3⟩
    unfold Mach.step
    have hk2 : (Eight.mk a b gb ks τ).ks[p]? = some k := hk
    rw [hk2]
    simp only [ho]
    have hs' : (S8 a b gb).next k { (Eight.mk a b gb ks τ).σ with steps := (Eight.mk a b gb ks τ).σ.steps.set p ((Eight.mk a b gb ks τ).σ.steps.getD p 0 + 1) } = some (k', σ') := h1
    rw [hs']
    rfl
end Go.Proofs.Ythllplocbciepaa.Kod.Eight
