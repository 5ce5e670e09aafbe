/- Merged out of Many9, Many9b, Many9c, Mid9, Pk9, App9, In9 (see each head). -/
import Derived.Test.YtndpkonihcebeaaAgain9
import Derived.Test.YtndpkonihcebeaaAlone9
import Derived.Deep.RegionHeld3
import Derived.Test.YtndpkonihcebeaaOpenS
/- Layer 9, without memory: however the steps of several tasks are picked, each ticket is in one place. -/
namespace Go.Proofs.Ytndpkonihcebeaa.Kod.Nine
open Go.RowKit Go.Proofs.Ytndpkonihcebeaa Go.Proofs.Ytndpkonihcebeaa.Cell Go.Proofs.Ytndpkonihcebeaa.Wd
set_option linter.unusedVariables false
set_option linter.unusedSimpArgs false

/-- What a code has in its hands. -/
def hold : K9 → List Int
  | .putL _ t l | .putD _ t l _ | .putS _ t l _ | .putC _ t l _ | .putN _ t l _ | .putM _ t l _ _ => t :: l
  | .freL _ t l i | .freS _ t l i _ | .freC _ t l i _ => i :: t :: l
  | _ => []
def holds (ks : List K9) : List Int := (ks.map hold).flatten
theorem holds_set : ∀ (ks : List K9) (p : Nat) (k : K9), ks[p]? = some k → ∃ A B, holds ks = A ++ hold k ++ B ∧ ∀ k', holds (ks.set p k') = A ++ hold k' ++ B
  | [], p, k, h => by simp at h
  | z :: ks, 0, k, h => by
    obtain rfl : z = k := by simpa using h
    exact ⟨[], holds ks, by simp [holds], fun y => by simp [holds]⟩
  | z :: ks, p + 1, k, h => by
    obtain ⟨A, B, h1, h2⟩ := holds_set ks p k (by simpa using h)
    refine ⟨hold z ++ A, B, ?_, fun y => ?_⟩
    · show hold z ++ holds ks = _
      rw [h1]
      simp
    · show hold z ++ holds (ks.set p y) = _
      rw [h2]
      simp
theorem mem_holds {ks : List K9} {p : Nat} {k : K9} {i : Int} (hk : ks[p]? = some k) (hi : i ∈ hold k) : i ∈ holds ks := by
  obtain ⟨A, B, e, _⟩ := holds_set ks p k hk
  rw [e]
  simp [hi]
theorem holds_apart : ∀ {ks : List K9} {p q : Nat} {k k2 : K9} {i : Int}, (holds ks).Nodup → ks[p]? = some k → ks[q]? = some k2 → i ∈ hold k → i ∈ hold k2 → p = q
  | [], p, q, k, k2, i, _, h, _, _, _ => by simp at h
  | z :: ks, 0, 0, k, k2, i, _, _, _, _, _ => rfl
  | z :: ks, 0, q + 1, k, k2, i, hn, h1, h2, h3, h4 => by
    obtain rfl : z = k := by simpa using h1
    have hn' : (hold z ++ holds ks).Nodup := hn
    exact absurd rfl ((List.nodup_append.1 hn').2.2 i h3 i (mem_holds (by simpa using h2) h4))
  | z :: ks, p + 1, 0, k, k2, i, hn, h1, h2, h3, h4 => by
    obtain rfl : z = k2 := by simpa using h2
    have hn' : (hold z ++ holds ks).Nodup := hn
    exact absurd rfl ((List.nodup_append.1 hn').2.2 i h4 i (mem_holds (by simpa using h1) h3))
  | z :: ks, p + 1, q + 1, k, k2, i, hn, h1, h2, h3, h4 => by
    have hn' : (hold z ++ holds ks).Nodup := hn
    exact congrArg (· + 1) (holds_apart (List.nodup_append.1 hn').2.1 (by simpa using h1) (by simpa using h2) h3 h4)

/-- Where tickets are: in the box, free, taken out, told; where each Drain ended; which Puts were told. -/
structure Ab9 where
  bl : List Int
  fl : List Int
  rl : List Int
  got : List Int
  ends : List Int
  ended : List Int
def Ab9.all (A : Ab9) : List Int := A.bl ++ A.fl ++ A.rl ++ A.got
/-- How far a drain is. -/
def phase : K9 → Nat
  | .drL _ _ | .drC _ _ _ => 0
  | .eaL _ _ _ | .eaI _ _ _ => 1
  | .done => 2
  | _ => 3
/-- How many drains are still to be begun. -/
def left : K9 → Nat
  | .drL _ n | .drC _ n _ | .eaL _ n _ | .eaI _ n _ => n
  | _ => 0
/-- What is still to be put. -/
def todo : K9 → List Int
  | .putL _ t l | .putD _ t l _ | .putS _ t l _ | .putC _ t l _ | .putN _ t l _ | .putM _ t l _ _ | .freL _ t l _ | .freS _ t l _ _ | .freC _ t l _ _ => t :: l
  | _ => []
/-- What a step does. -/
inductive Tr (D : Int → Prop) (z : Prop) : K9 → K9 → Ab9 → Ab9 → Prop
  | stay {k k' : K9} {A : Ab9} (h : hold k' = hold k) (hp : phase k' = phase k) (hl : left k' = left k) (ht : todo k' = todo k) : Tr D z k k' A A
  | put {d : Bool} {t : Int} {l : List Int} {h : Int} {A : Ab9} {e : List Int} (he : e = A.ended ∨ (e = A.ended ++ [t] ∧ z)) : Tr D z (.putC d t l h) (kput d l) A { A with bl := t :: A.bl, ended := e }
  | help {d : Bool} {t : Int} {l : List Int} {h x i : Int} {A : Ab9} {b : List Int} (hb : A.bl = i :: b) (hd : D i) : Tr D z (.putM d t l h x) (.freL d t l i) A { A with bl := b }
  | free {d : Bool} {t : Int} {l : List Int} {h i : Int} {A : Ab9} : Tr D z (.freC d t l i h) (.putL d t l) A { A with fl := i :: A.fl }
  | take {o n : Nat} {h f : Int} {A : Ab9} (hr : A.rl = []) : Tr D z (.drC o n h) (.eaL o n f) A { A with bl := [], rl := A.bl }
  | got {o n : Nat} {f x : Int} {A : Ab9} {r : List Int} (hr : A.rl = f :: r) : Tr D z (.eaL o n f) (.eaI o n x) A { A with rl := r, got := A.got ++ [f] }
  | stopL {o n : Nat} {A : Ab9} (hb : A.bl = []) (hr : A.rl = []) : Tr D z (.drL o n) (kdr o n) A { A with ends := A.ends ++ [(A.got.length : Int)] }
  | stopI {o n : Nat} {x : Int} {A : Ab9} (hr : A.rl = []) : Tr D z (.eaI o n x) (kdr o n) A { A with ends := A.ends ++ [(A.got.length : Int)] }
theorem hold_kput (d : Bool) (l : List Int) : hold (kput d l) = l := by cases l <;> rfl
theorem hold_kdr (o n : Nat) : hold (kdr o n) = [] := by cases n <;> rfl
theorem Tr.perm {D : Int → Prop} {z : Prop} {k k' : K9} {A A' : Ab9} (h : Tr D z k k' A A') : (A'.all ++ hold k').Perm (A.all ++ hold k) := by
  rw [List.perm_iff_count]
  intro y
  cases h with
  | stay h hp hl ht => rw [h]
  | put he => rw [hold_kput]; simp only [Ab9.all, hold, List.count_append, List.count_cons]; omega
  | help hb hd => simp only [Ab9.all, hold, hb, List.count_append, List.count_cons]; omega
  | free => simp only [Ab9.all, hold, List.count_append, List.count_cons]; omega
  | take hr => simp only [Ab9.all, hold, hr, List.count_append, List.count_nil]; omega
  | got hr => simp only [Ab9.all, hold, hr, List.count_append, List.count_cons, List.count_nil]; omega
  | stopL hb hr => rw [hold_kdr]; simp only [Ab9.all, hold]
  | stopI hr => rw [hold_kdr]; simp only [Ab9.all, hold]
theorem Tr.len {D : Int → Prop} {z : Prop} {k k' : K9} {A A' : Ab9} (h : Tr D z k k' A A') : A'.got.length ≤ A.got.length + 1 ∧ A'.ends.length ≤ A.ends.length + 1 ∧ A'.ended.length ≤ A.ended.length + 1 := by
  cases h with
  | put he =>
    rcases he with rfl | ⟨rfl, _⟩ <;> simp
  | _ => simp
/-- What a task that is under way knows is right. -/
def Okk9 (xs : List Int) : K9 → Prop
  | .putD _ t l h => ct h ≤ ct (xs.getD 0 0) ∧ 0 ≤ ix h ∧ ix h < 20
  | .putS _ t l h => ct h ≤ ct (xs.getD 0 0)
  | .putC _ t l h => ct h ≤ ct (xs.getD 0 0) ∧ xs.getD (t + 2).toNat 0 = ix h + 1
  | .putN _ t l h => ct h ≤ ct (xs.getD 0 0) ∧ 0 ≤ ix h ∧ ix h < 20 ∧ xs.getD (22 + ix h).toNat 0 = 1
  | .putM _ t l h x => ct h ≤ ct (xs.getD 0 0) ∧ 0 ≤ ix h ∧ ix h < 20 ∧ xs.getD (22 + ix h).toNat 0 = 1 ∧ (xs.getD 0 0 = h → x = xs.getD (ix h + 2).toNat 0)
  | .freL _ t l i => xs.getD (22 + i).toNat 0 = 1
  | .freS _ t l i h => xs.getD (22 + i).toNat 0 = 1 ∧ ct h ≤ ct (xs.getD 1 0)
  | .freC _ t l i h => xs.getD (22 + i).toNat 0 = 1 ∧ ct h ≤ ct (xs.getD 1 0) ∧ xs.getD (i + 2).toNat 0 = ix h + 1
  | .drC _ _ h => 0 ≤ ix h
  | _ => True
/-- The drainer. -/
def Dr (xs : List Int) (rl : List Int) : K9 → Prop
  | .done => rl = []
  | .drL o _ | .drC o _ _ => o = 0 ∧ rl = []
  | .eaL o _ f => o = 0 ∧ 0 ≤ f ∧ Chn 20 xs f rl
  | .eaI o _ x => o = 0 ∧ Chn 20 xs (nx x) rl
  | _ => False
/-- One who puts. -/
def Pu : K9 → Prop
  | .done | .putL _ _ _ | .putD _ _ _ _ | .putS _ _ _ _ | .putC _ _ _ _ | .putN _ _ _ _ | .putM _ _ _ _ _ | .freL _ _ _ _ | .freS _ _ _ _ _ | .freC _ _ _ _ _ => True
  | _ => False
theorem Pu.kput (d : Bool) (l : List Int) : Pu (kput d l) := by cases l <;> trivial
/-- However steps were picked. -/
structure Many9 (N : Nat) (all : List Int) (A : Ab9) (ks : List K9) (τ : St R9) : Prop where
  len : τ.xs.length = 42
  bx : Chn 20 τ.xs (ix (τ.xs.getD 0 0)) A.bl
  fr : Chn 20 τ.xs (ix (τ.xs.getD 1 0)) A.fl
  own : τ.r.own = [(A.got, A.ends)]
  ended : τ.r.ended = A.ended
  perm : (A.all ++ holds ks).Perm all
  few : A.got.length + N ≤ 900000 ∧ A.ends.length + N ≤ 900000 ∧ A.ended.length + N ≤ 900000
  once : all.Nodup
  rng : ∀ i ∈ all, 0 ≤ i ∧ i < 20
  dr : ∀ k, ks[0]? = some k → Dr τ.xs A.rl k
  pu : ∀ (p : Nat) (k : K9), ks[p + 1]? = some k → Pu k
  ok : ∀ (p : Nat) (k : K9), ks[p]? = some k → Okk9 τ.xs k
  dd : ∀ i ∈ A.fl, τ.xs.getD (22 + i).toNat 0 = 1
  c0 : 0 ≤ τ.xs.getD 0 0 ∧ ct (τ.xs.getD 0 0) + N < 4294967296
  c1 : 0 ≤ τ.xs.getD 1 0 ∧ ct (τ.xs.getD 1 0) + N < 4294967296
section
variable {N p : Nat} {all : List Int} {A A' : Ab9} {ks : List K9} {τ σ' : St R9} {k k' : K9} {D : Int → Prop} {z : Prop}
theorem Many9.nodup (h : Many9 N all A ks τ) : (A.all ++ holds ks).Nodup := h.perm.nodup_iff.2 h.once
theorem Many9.inr (h : Many9 N all A ks τ) {i : Int} (hi : i ∈ A.all ++ holds ks) : 0 ≤ i ∧ i < 20 := h.rng i (h.perm.mem_iff.1 hi)
theorem Many9.apart (h : Many9 N all A ks τ) (hk : ks[p]? = some k) {i : Int} (hi : i ∈ hold k) : i ∉ A.all := fun hs => (List.nodup_append.1 h.nodup).2.2 i hs i (mem_holds hk hi) rfl
theorem Many9.lower {N' : Nat} (h : Many9 N all A ks τ) (hn : N' ≤ N) : Many9 N' all A ks τ :=
  ⟨h.len, h.bx, h.fr, h.own, h.ended, h.perm, by have := h.few; omega, h.once, h.rng, h.dr, h.pu, h.ok, h.dd, ⟨h.c0.1, by have := h.c0.2; omega⟩, ⟨h.c1.1, by have := h.c1.2; omega⟩⟩
theorem Many9.next (h : Many9 (N + 1) all A ks τ) (hk : ks[p]? = some k) (tr : Tr D z k k' A A') (hlen : σ'.xs.length = τ.xs.length) (hbx : Chn 20 σ'.xs (ix (σ'.xs.getD 0 0)) A'.bl) (hfr : Chn 20 σ'.xs (ix (σ'.xs.getD 1 0)) A'.fl) (hown : σ'.r.own = [(A'.got, A'.ends)]) (hended : σ'.r.ended = A'.ended)
    (hdr : p = 0 → Dr σ'.xs A'.rl k') (hdr' : p ≠ 0 → ∀ k0, ks[0]? = some k0 → Dr σ'.xs A'.rl k0) (hpu : p ≠ 0 → Pu k') (hok : Okk9 σ'.xs k') (hoth : ∀ (q : Nat) (k2 : K9), q ≠ p → ks[q]? = some k2 → Okk9 σ'.xs k2) (hdd : ∀ i ∈ A'.fl, σ'.xs.getD (22 + i).toNat 0 = 1)
    (hc0 : 0 ≤ σ'.xs.getD 0 0 ∧ ct (σ'.xs.getD 0 0) ≤ ct (τ.xs.getD 0 0) + 1) (hc1 : 0 ≤ σ'.xs.getD 1 0 ∧ ct (σ'.xs.getD 1 0) ≤ ct (τ.xs.getD 1 0) + 1) : Many9 N all A' (ks.set p k') σ' := by
  have hp : p < ks.length := (List.getElem?_eq_some_iff.1 hk).1
  have hl := tr.len
  have hf := h.few
  have hcc0 := h.c0.2
  have hcc1 := h.c1.2
  refine ⟨hlen.trans h.len, hbx, hfr, hown, hended, ?_, by omega, h.once, h.rng, fun k0 h0 => ?_, fun q k2 h2 => ?_, fun q k2 h2 => ?_, hdd, ⟨hc0.1, by omega⟩, ⟨hc1.1, by omega⟩⟩
  · obtain ⟨U, V, e1, e2⟩ := holds_set ks p k hk
    have h1 := h.perm
    rw [e1] at h1
    rw [e2]
    refine List.Perm.trans ?_ h1
    have h2 := tr.perm
    rw [List.perm_iff_count] at h2 ⊢
    intro y
    have := h2 y
    simp only [List.count_append] at this ⊢
    omega
  · by_cases hp0 : p = 0
    · subst hp0
      simp [hp] at h0
      subst h0
      exact hdr rfl
    · rw [List.getElem?_set_ne hp0] at h0
      exact hdr' hp0 k0 h0
  · by_cases hq : p = q + 1
    · subst hq
      simp [hp] at h2
      subst h2
      exact hpu (by omega)
    · rw [List.getElem?_set_ne hq] at h2
      exact h.pu q k2 h2
  · by_cases hq : p = q
    · subst hq
      simp [hp] at h2
      subst h2
      exact hok
    · rw [List.getElem?_set_ne hq] at h2
      exact hoth q k2 (Ne.symm hq) h2
/-- Nothing is written. -/
theorem Many9.read (h : Many9 (N + 1) all A ks τ) (hk : ks[p]? = some k) (tr : Tr D z k k' A A') (hx : σ'.xs = τ.xs) (hbl : A'.bl = A.bl) (hfl : A'.fl = A.fl) (hown : σ'.r.own = [(A'.got, A'.ends)]) (hended : σ'.r.ended = A'.ended)
    (hdr : p = 0 → Dr τ.xs A'.rl k') (hrl : p ≠ 0 → A'.rl = A.rl) (hpu : p ≠ 0 → Pu k') (hok : Okk9 τ.xs k') : Many9 N all A' (ks.set p k') σ' := by
  refine h.next hk tr (by rw [hx]) (by rw [hx, hbl]; exact h.bx) (by rw [hx, hfl]; exact h.fr) hown hended (fun e => by rw [hx]; exact hdr e) (fun e k0 h0 => by rw [hx, hrl e]; exact h.dr k0 h0) hpu (by rw [hx]; exact hok) (fun q k2 hq h2 => by rw [hx]; exact h.ok q k2 h2) (fun i hi => ?_) (by rw [hx]; exact ⟨h.c0.1, by omega⟩) (by rw [hx]; exact ⟨h.c1.1, by omega⟩)
  rw [hx]
  rw [hfl] at hi
  exact h.dd i hi
theorem Dr.set {xs rl : List Int} {k : K9} {n : Nat} {v : Int} (h : Dr xs rl k) (hn : ∀ i ∈ rl, (i + 2).toNat ≠ n) : Dr (xs.set n v) rl k := by
  cases k with
  | done => exact h
  | drL => exact h
  | drC => exact h
  | eaL => exact ⟨h.1, h.2.1, h.2.2.set hn⟩
  | eaI => exact ⟨h.1, h.2.set hn⟩
  | _ => exact h.elim
theorem Dr.inr {xs rl : List Int} {k : K9} (h : Dr xs rl k) : ∀ i ∈ rl, 0 ≤ i ∧ i < 20 := by
  intro i hi
  cases k with
  | done => have e : rl = [] := h; rw [e] at hi; simp at hi
  | drL => have e : rl = [] := h.2; rw [e] at hi; simp at hi
  | drC => have e : rl = [] := h.2; rw [e] at hi; simp at hi
  | eaL => exact h.2.2.mem i hi
  | eaI => exact h.2.mem i hi
  | _ => exact h.elim
/-- One's own ticket's link is written. -/
theorem Many9.link {t v : Int} (h : Many9 (N + 1) all A ks τ) (hk : ks[p]? = some k) (hp : p ≠ 0) (tr : Tr D z k k' A A) (ht : t ∈ hold k) (hx : σ'.xs = τ.xs.set (t + 2).toNat v) (hr : σ'.r = τ.r) (hpu : Pu k') (hok : Okk9 σ'.xs k') : Many9 N all A (ks.set p k') σ' := by
  have hr0 := h.inr (List.mem_append_right _ (mem_holds hk ht))
  have hap := h.apart hk ht
  have hab : t ∉ A.bl ∧ t ∉ A.fl ∧ t ∉ A.rl := by
    unfold Ab9.all at hap
    simp only [List.mem_append, not_or] at hap
    exact ⟨hap.1.1.1, hap.1.1.2, hap.1.2⟩
  have hn2 : (t + 2).toNat ≠ 0 ∧ (t + 2).toNat ≠ 1 ∧ (t + 2).toNat < 22 := by omega
  have e0 : σ'.xs.getD 0 0 = τ.xs.getD 0 0 := by rw [hx]; exact getD_set _ _ _ _ hn2.1
  have e1 : σ'.xs.getD 1 0 = τ.xs.getD 1 0 := by rw [hx]; exact getD_set _ _ _ _ hn2.2.1
  have eo : ∀ i : Int, i ≠ t → 0 ≤ i → σ'.xs.getD (i + 2).toNat 0 = τ.xs.getD (i + 2).toNat 0 := fun i hi h0 => by rw [hx]; exact getD_set _ _ _ _ (by omega)
  have ed : ∀ i : Int, 0 ≤ i → σ'.xs.getD (22 + i).toNat 0 = τ.xs.getD (22 + i).toNat 0 := fun i h0 => by rw [hx]; exact getD_set _ _ _ _ (by omega)
  refine h.next hk tr (by rw [hx]; simp) ?_ ?_ (by rw [hr]; exact h.own) (by rw [hr]; exact h.ended) (fun e => absurd e hp) (fun _ k0 h0 => ?_) (fun _ => hpu) hok (fun q k2 hq h2 => ?_) (fun i hi => ?_) (by rw [e0]; exact ⟨h.c0.1, by omega⟩) (by rw [e1]; exact ⟨h.c1.1, by omega⟩)
  · rw [e0, hx]
    refine h.bx.set fun i hi => ?_
    have h1 := h.bx.mem i hi
    have h2 : i ≠ t := fun e => hab.1 (e ▸ hi)
    omega
  · rw [e1, hx]
    refine h.fr.set fun i hi => ?_
    have h1 := h.fr.mem i hi
    have h2 : i ≠ t := fun e => hab.2.1 (e ▸ hi)
    omega
  · rw [hx]
    have hd := h.dr k0 h0
    refine hd.set fun i hi => ?_
    have h1 := hd.inr i hi
    have h2 : i ≠ t := fun e => hab.2.2 (e ▸ hi)
    omega
  · have ho := h.ok q k2 h2
    have hh : ∀ i ∈ hold k2, i ≠ t ∧ 0 ≤ i := fun i hi => ⟨fun e => hq (holds_apart (List.nodup_append.1 h.nodup).2.1 h2 hk hi (e ▸ ht)), (h.inr (List.mem_append_right _ (mem_holds h2 hi))).1⟩
    cases k2 with
    | putD d2 t2 l2 h3 => simp only [Okk9] at ho ⊢; rw [e0]; exact ho
    | putS d2 t2 l2 h3 => simp only [Okk9] at ho ⊢; rw [e0]; exact ho
    | putC d2 t2 l2 h3 =>
      have := hh t2 (by simp [hold])
      simp only [Okk9] at ho ⊢
      rw [e0, eo t2 this.1 this.2]
      exact ho
    | putN d2 t2 l2 h3 =>
      simp only [Okk9] at ho ⊢
      rw [e0, ed _ ho.2.1]
      exact ho
    | putM d2 t2 l2 h3 x3 =>
      simp only [Okk9] at ho ⊢
      rw [e0, ed _ ho.2.1]
      refine ⟨ho.1, ho.2.1, ho.2.2.1, ho.2.2.2.1, fun e => ?_⟩
      rw [eo _ _ ho.2.1]
      · exact ho.2.2.2.2 e
      · intro e2
        have hb := h.bx
        rw [e] at hb
        obtain ⟨b, hb2, _⟩ := hb.cons ho.2.1
        exact hab.1 (by rw [hb2, e2]; exact List.mem_cons_self)
    | freL d2 t2 l2 i2 =>
      have := hh i2 (by simp [hold])
      simp only [Okk9] at ho ⊢
      rw [ed _ this.2]
      exact ho
    | freS d2 t2 l2 i2 h3 =>
      have := hh i2 (by simp [hold])
      simp only [Okk9] at ho ⊢
      rw [ed _ this.2, e1]
      exact ho
    | freC d2 t2 l2 i2 h3 =>
      have := hh i2 (by simp [hold])
      simp only [Okk9] at ho ⊢
      rw [ed _ this.2, e1, eo _ this.1 this.2]
      exact ho
    | drC => exact ho
    | _ => trivial
  · rw [ed i (h.fr.mem i hi).1]
    exact h.dd i hi
/-- The box's head is written. -/
theorem Many9.head {v : Int} (h : Many9 (N + 1) all A ks τ) (hk : ks[p]? = some k) (tr : Tr D z k k' A A') (hx : σ'.xs = τ.xs.set 0 v) (hv : 0 ≤ v ∧ ct v = ct (τ.xs.getD 0 0) + 1) (hbl : Chn 20 τ.xs (ix v) A'.bl) (hfl : A'.fl = A.fl) (hown : σ'.r.own = [(A'.got, A'.ends)]) (hended : σ'.r.ended = A'.ended)
    (hdr : p = 0 → Dr τ.xs A'.rl k') (hrl : p ≠ 0 → A'.rl = A.rl) (hpu : p ≠ 0 → Pu k') (hok : Okk9 σ'.xs k') : Many9 N all A' (ks.set p k') σ' := by
  have hlen := h.len
  have e0 : σ'.xs.getD 0 0 = v := by rw [hx]; exact getD_set_self _ _ _ (by omega)
  have e1 : ∀ n : Nat, n ≠ 0 → σ'.xs.getD n 0 = τ.xs.getD n 0 := fun n hn => by rw [hx]; exact getD_set _ _ _ _ (Ne.symm hn)
  refine h.next hk tr (by rw [hx]; simp) ?_ ?_ hown hended (fun e => ?_) (fun e k0 h0 => ?_) hpu hok (fun q k2 hq h2 => ?_) (fun i hi => ?_) (by rw [e0]; exact ⟨hv.1, by omega⟩) (by rw [e1 1 (by omega)]; exact ⟨h.c1.1, by omega⟩)
  · rw [e0, hx]
    exact hbl.set fun i hi => by have := hbl.mem i hi; omega
  · rw [e1 1 (by omega), hx, hfl]
    exact h.fr.set fun i hi => by have := h.fr.mem i hi; omega
  · have hd := hdr e
    rw [hx]
    exact hd.set fun i hi => by have := hd.inr i hi; omega
  · have hd := h.dr k0 h0
    rw [hx, hrl e]
    exact hd.set fun i hi => by have := hd.inr i hi; omega
  · have ho := h.ok q k2 h2
    have hh : ∀ i ∈ hold k2, 0 ≤ i := fun i hi => (h.inr (List.mem_append_right _ (mem_holds h2 hi))).1
    cases k2 with
    | putD d2 t2 l2 h3 => simp only [Okk9] at ho ⊢; rw [e0]; exact ⟨by omega, ho.2⟩
    | putS d2 t2 l2 h3 => simp only [Okk9] at ho ⊢; rw [e0]; omega
    | putC d2 t2 l2 h3 =>
      have := hh t2 (by simp [hold])
      simp only [Okk9] at ho ⊢
      rw [e0, e1 _ (by omega)]
      exact ⟨by omega, ho.2⟩
    | putN d2 t2 l2 h3 =>
      simp only [Okk9] at ho ⊢
      rw [e0, e1 _ (by omega)]
      exact ⟨by omega, ho.2⟩
    | putM d2 t2 l2 h3 x3 =>
      simp only [Okk9] at ho ⊢
      rw [e0, e1 _ (by omega)]
      refine ⟨by omega, ho.2.1, ho.2.2.1, ho.2.2.2.1, fun e => ?_⟩
      have h5 := ho.1
      rw [← e] at h5
      omega
    | freL d2 t2 l2 i2 =>
      have := hh i2 (by simp [hold])
      simp only [Okk9] at ho ⊢
      rw [e1 _ (by omega)]
      exact ho
    | freS d2 t2 l2 i2 h3 =>
      have := hh i2 (by simp [hold])
      simp only [Okk9] at ho ⊢
      rw [e1 _ (by omega), e1 1 (by omega)]
      exact ho
    | freC d2 t2 l2 i2 h3 =>
      have := hh i2 (by simp [hold])
      simp only [Okk9] at ho ⊢
      rw [e1 _ (by omega), e1 1 (by omega), e1 _ (by omega)]
      exact ho
    | drC => exact ho
    | _ => trivial
  · rw [hfl] at hi
    rw [e1 _ (by have := h.fr.mem i hi; omega)]
    exact h.dd i hi
/-- The free ones' head is written. -/
theorem Many9.free {v i : Int} (h : Many9 (N + 1) all A ks τ) (hk : ks[p]? = some k) (hp : p ≠ 0) (tr : Tr D z k k' A { A with fl := i :: A.fl }) (hx : σ'.xs = τ.xs.set 1 v) (hr : σ'.r = τ.r) (hv : 0 ≤ v ∧ ct v = ct (τ.xs.getD 1 0) + 1) (hfl : Chn 20 τ.xs (ix v) (i :: A.fl)) (hd : τ.xs.getD (22 + i).toNat 0 = 1) (hpu : Pu k') (hok : Okk9 σ'.xs k') : Many9 N all { A with fl := i :: A.fl } (ks.set p k') σ' := by
  have hlen := h.len
  have e1 : σ'.xs.getD 1 0 = v := by rw [hx]; exact getD_set_self _ _ _ (by omega)
  have e0 : ∀ n : Nat, n ≠ 1 → σ'.xs.getD n 0 = τ.xs.getD n 0 := fun n hn => by rw [hx]; exact getD_set _ _ _ _ (Ne.symm hn)
  refine h.next hk tr (by rw [hx]; simp) ?_ ?_ (by rw [hr]; exact h.own) (by rw [hr]; exact h.ended) (fun e => absurd e hp) (fun e k0 h0 => ?_) (fun _ => hpu) hok (fun q k2 hq h2 => ?_) (fun j hj => ?_) (by rw [e0 0 (by omega)]; exact ⟨h.c0.1, by omega⟩) (by rw [e1]; exact ⟨hv.1, by omega⟩)
  · rw [e0 0 (by omega), hx]
    exact h.bx.set fun i hi => by have := h.bx.mem i hi; omega
  · rw [e1, hx]
    exact hfl.set fun i hi => by have := hfl.mem i hi; omega
  · have hd := h.dr k0 h0
    rw [hx]
    exact hd.set fun i hi => by have := hd.inr i hi; omega
  · have ho := h.ok q k2 h2
    have hh : ∀ i ∈ hold k2, 0 ≤ i := fun i hi => (h.inr (List.mem_append_right _ (mem_holds h2 hi))).1
    cases k2 with
    | putD d2 t2 l2 h3 => simp only [Okk9] at ho ⊢; rw [e0 0 (by omega)]; exact ho
    | putS d2 t2 l2 h3 => simp only [Okk9] at ho ⊢; rw [e0 0 (by omega)]; exact ho
    | putC d2 t2 l2 h3 =>
      have := hh t2 (by simp [hold])
      simp only [Okk9] at ho ⊢
      rw [e0 0 (by omega), e0 _ (by omega)]
      exact ho
    | putN d2 t2 l2 h3 =>
      simp only [Okk9] at ho ⊢
      rw [e0 0 (by omega), e0 _ (by omega)]
      exact ho
    | putM d2 t2 l2 h3 x3 =>
      simp only [Okk9] at ho ⊢
      rw [e0 0 (by omega), e0 _ (by omega), e0 _ (by omega)]
      exact ho
    | freL d2 t2 l2 i2 =>
      have := hh i2 (by simp [hold])
      simp only [Okk9] at ho ⊢
      rw [e0 _ (by omega)]
      exact ho
    | freS d2 t2 l2 i2 h3 =>
      have := hh i2 (by simp [hold])
      simp only [Okk9] at ho ⊢
      rw [e0 _ (by omega), e1]
      exact ⟨ho.1, by omega⟩
    | freC d2 t2 l2 i2 h3 =>
      have := hh i2 (by simp [hold])
      simp only [Okk9] at ho ⊢
      rw [e0 _ (by omega), e1, e0 _ (by omega)]
      exact ⟨ho.1, by omega, ho.2.2⟩
    | drC => exact ho
    | _ => trivial
  · rcases List.mem_cons.1 hj with rfl | hj
    · have := hfl.mem j List.mem_cons_self
      rw [e0 _ (by omega)]
      exact hd
    · rw [e0 _ (by have := h.fr.mem j hj; omega)]
      exact h.dd j hj
end
theorem ct_turn9 {old first : Int} (h0 : 0 ≤ old) (h : ct old + 1 < 4294967296) (h1 : -1 ≤ first) (h2 : first < 4294967295) : ct (turnTo old first) = ct old + 1 ∧ 0 ≤ turnTo old first := by
  unfold turnTo
  rw [if_pos ⟨h1, h2⟩]
  have : 0 ≤ ct old := by unfold ct; omega
  rw [Int.emod_eq_of_lt (by omega) h]
  unfold ct at *
  omega
/-- How many steps a task takes at most, from here on alone. -/
def cost (x0 x1 : Int) (bl rl : List Int) : K9 → Nat
  | .done => 0
  | .putL _ _ l => 4 + 7 * bl.length + 11 * l.length
  | .putD _ _ l h => (if h = x0 then 3 else 7) + 7 * bl.length + 11 * l.length
  | .putS _ _ l h => (if h = x0 then 2 else 6) + 7 * bl.length + 11 * l.length
  | .putC _ _ l h => (if h = x0 then 1 else 5) + 7 * bl.length + 11 * l.length
  | .putN _ _ l h => (if h = x0 then 2 else 6) + 7 * bl.length + 11 * l.length
  | .putM _ _ l h _ => (if h = x0 then 1 else 5) + 7 * bl.length + 11 * l.length
  | .freL _ _ l _ => 7 + 7 * bl.length + 11 * l.length
  | .freS _ _ l _ h => (if h = x1 then 6 else 9) + 7 * bl.length + 11 * l.length
  | .freC _ _ l _ h => (if h = x1 then 5 else 8) + 7 * bl.length + 11 * l.length
  | .drL _ n => 2 + 2 * bl.length + 2 * n
  | .drC _ n h => (if h = x0 then 1 else 3) + 2 * bl.length + 2 * n
  | .eaL _ n _ => 2 * rl.length + 2 * bl.length + 2 * n
  | .eaI _ n _ => 1 + 2 * rl.length + 2 * bl.length + 2 * n
/-- A step's outcome. -/
def Fares9 (N p : Nat) (all : List Int) (A : Ab9) (ks : List K9) (τ : St R9) (k : K9) : Prop :=
  ∃ A' k' σ', next9 (20 : Nat) k (bump τ p) = some (k', σ') ∧ Tr (fun i => τ.xs.getD (22 + i).toNat 0 = 1) (p ≠ 0 ∧ τ.steps.getD 0 0 = 0) k k' A A' ∧ Many9 N all A' (ks.set p k') σ' ∧ σ'.c ≤ τ.c + 1 ∧ σ'.steps = (bump τ p).steps ∧ cost (σ'.xs.getD 0 0) (σ'.xs.getD 1 0) A'.bl A'.rl k' < cost (τ.xs.getD 0 0) (τ.xs.getD 1 0) A.bl A.rl k ∧ (∀ i : Int, 0 ≤ i → σ'.xs.getD (22 + i).toNat 0 = τ.xs.getD (22 + i).toNat 0)
end Go.Proofs.Ytndpkonihcebeaa.Kod.Nine

/- Layer 9, without memory: each kind of step, however others are under way. -/
namespace Go.Proofs.Ytndpkonihcebeaa.Kod.Nine
open Go.RowKit Go.Proofs.Ytndpkonihcebeaa Go.Proofs.Ytndpkonihcebeaa.Cell Go.Proofs.Ytndpkonihcebeaa.Wd
set_option linter.unusedVariables false
set_option linter.unusedSimpArgs false
section
variable {N p : Nat} {all : List Int} {A : Ab9} {ks : List K9} {τ : St R9} {d : Bool} {t i h x : Int} {l : List Int} {o n : Nat}
theorem Many9.own_at (M : Many9 N all A ks τ) : (bump τ p).r.own[0]? = some (A.got, A.ends) := by
  show τ.r.own[0]? = _
  rw [M.own]
  rfl
theorem Many9.putL (M : Many9 (N + 1) all A ks τ) (hk : ks[p]? = some (.putL d t l)) (hp : p ≠ 0) : Fares9 N p all A ks τ (.putL d t l) := by
  have hl := M.len
  have hn : next9 (20 : Nat) (.putL d t l) (bump τ p) = if ix (τ.xs.getD 0 0) < 0 then some (.putS d t l (τ.xs.getD 0 0), { bump τ p with c := τ.c + 1 }) else some (.putD d t l (τ.xs.getD 0 0), { bump τ p with c := τ.c + 1 }) := by
    simp only [next9]
    rw [ld_at (bump τ p) (by omega) (by show (0 : Int) < (τ.xs.length : Int); omega)]
    rfl
  have hlo := M.bx.lo
  by_cases hc : ix (τ.xs.getD 0 0) < 0
  · rw [if_pos hc] at hn
    refine ⟨A, _, _, hn, .stay rfl rfl rfl rfl, M.read (D := fun i => τ.xs.getD (22 + i).toNat 0 = 1) (z := p ≠ 0 ∧ τ.steps.getD 0 0 = 0) hk (.stay rfl rfl rfl rfl) rfl rfl rfl M.own M.ended (fun e => absurd e hp) (fun _ => rfl) (fun _ => trivial) (Int.le_refl _), Int.le_refl _, rfl, ?_, fun i _ => rfl⟩
    simp [cost, bump]
  · rw [if_neg hc] at hn
    refine ⟨A, _, _, hn, .stay rfl rfl rfl rfl, M.read (D := fun i => τ.xs.getD (22 + i).toNat 0 = 1) (z := p ≠ 0 ∧ τ.steps.getD 0 0 = 0) hk (.stay rfl rfl rfl rfl) rfl rfl rfl M.own M.ended (fun e => absurd e hp) (fun _ => rfl) (fun _ => trivial) ⟨Int.le_refl _, by omega, by omega⟩, Int.le_refl _, rfl, ?_, fun i _ => rfl⟩
    simp [cost, bump]
theorem Many9.putD (M : Many9 (N + 1) all A ks τ) (hk : ks[p]? = some (.putD d t l h)) (hp : p ≠ 0) : Fares9 N p all A ks τ (.putD d t l h) := by
  have hl := M.len
  obtain ⟨o1, o2, o3⟩ : ct h ≤ ct (τ.xs.getD 0 0) ∧ 0 ≤ ix h ∧ ix h < 20 := M.ok p _ hk
  have hn : next9 (20 : Nat) (.putD d t l h) (bump τ p) = if τ.xs.getD (22 + ix h).toNat 0 = 1 then some (.putN d t l h, { bump τ p with c := τ.c + 1 }) else some (.putS d t l h, { bump τ p with c := τ.c + 1 }) := by
    simp only [next9]
    rw [ld_at (bump τ p) (i := 2 + ((20 : Nat) : Int) + ix h) (by omega) (by show _ < (τ.xs.length : Int); omega)]
    rw [show (2 + ((20 : Nat) : Int) + ix h).toNat = (22 + ix h).toNat by omega]
    rfl
  by_cases hc : τ.xs.getD (22 + ix h).toNat 0 = 1
  · rw [if_pos hc] at hn
    refine ⟨A, _, _, hn, .stay rfl rfl rfl rfl, M.read (D := fun i => τ.xs.getD (22 + i).toNat 0 = 1) (z := p ≠ 0 ∧ τ.steps.getD 0 0 = 0) hk (.stay rfl rfl rfl rfl) rfl rfl rfl M.own M.ended (fun e => absurd e hp) (fun _ => rfl) (fun _ => trivial) ⟨o1, o2, o3, hc⟩, Int.le_refl _, rfl, ?_, fun i _ => rfl⟩
    show cost (τ.xs.getD 0 0) (τ.xs.getD 1 0) A.bl A.rl _ < cost (τ.xs.getD 0 0) (τ.xs.getD 1 0) A.bl A.rl _
    simp only [cost]
    by_cases hq : h = τ.xs.getD 0 0
    · rw [if_pos hq, if_pos hq]; omega
    · rw [if_neg hq, if_neg hq]; omega
  · rw [if_neg hc] at hn
    refine ⟨A, _, _, hn, .stay rfl rfl rfl rfl, M.read (D := fun i => τ.xs.getD (22 + i).toNat 0 = 1) (z := p ≠ 0 ∧ τ.steps.getD 0 0 = 0) hk (.stay rfl rfl rfl rfl) rfl rfl rfl M.own M.ended (fun e => absurd e hp) (fun _ => rfl) (fun _ => trivial) o1, Int.le_refl _, rfl, ?_, fun i _ => rfl⟩
    show cost (τ.xs.getD 0 0) (τ.xs.getD 1 0) A.bl A.rl _ < cost (τ.xs.getD 0 0) (τ.xs.getD 1 0) A.bl A.rl _
    simp only [cost]
    by_cases hq : h = τ.xs.getD 0 0
    · rw [if_pos hq, if_pos hq]; omega
    · rw [if_neg hq, if_neg hq]; omega
theorem Many9.putS (M : Many9 (N + 1) all A ks τ) (hk : ks[p]? = some (.putS d t l h)) (hp : p ≠ 0) : Fares9 N p all A ks τ (.putS d t l h) := by
  have hl := M.len
  have ho : ct h ≤ ct (τ.xs.getD 0 0) := M.ok p _ hk
  have ht : t ∈ hold (.putS d t l h) := List.mem_cons_self
  have hr := M.inr (List.mem_append_right _ (mem_holds hk ht))
  have hn : next9 (20 : Nat) (.putS d t l h) (bump τ p) = some (.putC d t l h, { bump τ p with c := τ.c + 1, xs := τ.xs.set (t + 2).toNat (ix h + 1) }) := by
    simp only [next9, lk2]
    rw [sto_at (bump τ p) (i := 2 + t) (by omega) (by show _ < (τ.xs.length : Int); omega), Int.add_comm 2 t]
    rfl
  have e0 : (τ.xs.set (t + 2).toNat (ix h + 1)).getD 0 0 = τ.xs.getD 0 0 := getD_set _ _ _ _ (by omega)
  have e1 : (τ.xs.set (t + 2).toNat (ix h + 1)).getD 1 0 = τ.xs.getD 1 0 := getD_set _ _ _ _ (by omega)
  have et : (τ.xs.set (t + 2).toNat (ix h + 1)).getD (t + 2).toNat 0 = ix h + 1 := getD_set_self _ _ _ (by omega)
  refine ⟨A, _, _, hn, .stay rfl rfl rfl rfl, M.link (D := fun i => τ.xs.getD (22 + i).toNat 0 = 1) (z := p ≠ 0 ∧ τ.steps.getD 0 0 = 0) hk hp (.stay rfl rfl rfl rfl) ht rfl rfl trivial (show _ ∧ _ from ⟨by rw [e0]; exact ho, et⟩), Int.le_refl _, rfl, ?_, fun i hi => getD_set _ _ _ _ (by omega)⟩
  show cost ((τ.xs.set (t + 2).toNat (ix h + 1)).getD 0 0) ((τ.xs.set (t + 2).toNat (ix h + 1)).getD 1 0) _ _ _ < _
  rw [e0, e1]
  simp only [cost]
  split <;> omega
theorem Many9.putC (M : Many9 (N + 1) all A ks τ) (hk : ks[p]? = some (.putC d t l h)) (hp : p ≠ 0) : Fares9 N p all A ks τ (.putC d t l h) := by
  have hl := M.len
  obtain ⟨o1, o2⟩ : ct h ≤ ct (τ.xs.getD 0 0) ∧ τ.xs.getD (t + 2).toNat 0 = ix h + 1 := M.ok p _ hk
  have ht : t ∈ hold (.putC d t l h) := List.mem_cons_self
  have hr := M.inr (List.mem_append_right _ (mem_holds hk ht))
  by_cases he : τ.xs.getD 0 0 = h
  · have hct := ct_turn9 (old := h) (first := t) (by rw [← he]; exact M.c0.1) (by rw [← he]; have := M.c0.2; omega) (by omega) (by omega)
    obtain ⟨v, hv⟩ : ∃ v, v = turnTo h t := ⟨_, rfl⟩
    have hiv : ix v = t := by rw [hv, ix_turn (by omega) (by omega)]
    rw [← hv] at hct
    have e0 : (τ.xs.set 0 v).getD 0 0 = v := getD_set_self _ _ _ (by omega)
    have e1 : ∀ n : Nat, n ≠ 0 → (τ.xs.set 0 v).getD n 0 = τ.xs.getD n 0 := fun n hn => getD_set _ _ _ _ (Ne.symm hn)
    obtain ⟨e, hee, hfr⟩ : ∃ e : List Int, e = (if d = true ∧ (bump τ p).steps.getD 0 0 = 0 then A.ended ++ [t] else A.ended) ∧ (e = A.ended ∨ (e = A.ended ++ [t] ∧ (p ≠ 0 ∧ τ.steps.getD 0 0 = 0))) := by
      refine ⟨_, rfl, ?_⟩
      split
      · rename_i hq
        refine Or.inr ⟨rfl, hp, ?_⟩
        have := hq.2
        unfold bump at this
        simp only at this
        rwa [List.getD_eq_getElem?_getD, List.getElem?_set_ne hp, ← List.getD_eq_getElem?_getD] at this
      · exact Or.inl rfl
    have hn : next9 (20 : Nat) (.putC d t l h) (bump τ p) = some (kput d l, { bump τ p with c := τ.c + 1, xs := τ.xs.set 0 v, r := { τ.r with ended := e } }) := by
      simp only [next9]
      rw [cas_at (bump τ p) (i := 0) (old := h) (by omega) (by show (0 : Int) < (τ.xs.length : Int); omega) he]
      have hE : τ.r.ended.length < 1000000 := by rw [M.ended]; have := M.few; omega
      simp only [if_true, putted]
      rw [if_pos (show ({ bump τ p with c := (bump τ p).c + 1, xs := (bump τ p).xs.set (0 : Int).toNat (turnTo h t) } : St R9).r.ended.length < 1000000 from hE)]
      rw [puts9_at]
      rw [hee, ← M.ended, ← hv]
      congr 1
      congr 1
      by_cases hq : d = true ∧ (bump τ p).steps.getD 0 0 = 0
      · rw [if_pos hq, if_pos (show d = true ∧ ({ bump τ p with c := (bump τ p).c + 1, xs := (bump τ p).xs.set (0 : Int).toNat v } : St R9).steps.getD 0 0 = 0 from hq)]
        rfl
      · rw [if_neg hq, if_neg (show ¬ (d = true ∧ ({ bump τ p with c := (bump τ p).c + 1, xs := (bump τ p).xs.set (0 : Int).toNat v } : St R9).steps.getD 0 0 = 0) from hq)]
        rfl
    have hch : Chn 20 τ.xs (ix v) (t :: A.bl) := by
      have := M.bx.push hr.1 hr.2 (by omega) (by rw [he]; exact o2)
      rw [he, ← hv] at this
      exact this
    refine ⟨_, _, _, hn, .put hfr, M.head (D := fun i => τ.xs.getD (22 + i).toNat 0 = 1) (z := p ≠ 0 ∧ τ.steps.getD 0 0 = 0) hk (.put hfr) rfl ⟨hct.2, by rw [hct.1, he]⟩ hch rfl M.own rfl (fun e => absurd e hp) (fun _ => rfl) (fun _ => Pu.kput d l) ?_, Int.le_refl _, rfl, ?_, fun i hi => e1 _ (by omega)⟩
    · cases l <;> trivial
    · cases l with
      | nil =>
        show 0 < cost (τ.xs.getD 0 0) (τ.xs.getD 1 0) A.bl A.rl (.putC d t [] h)
        simp only [cost]
        rw [if_pos he.symm]
        omega
      | cons u l =>
        show cost _ _ (t :: A.bl) A.rl (.putL d u l) < cost (τ.xs.getD 0 0) (τ.xs.getD 1 0) A.bl A.rl (.putC d t (u :: l) h)
        simp only [cost, List.length_cons]
        rw [if_pos he.symm]
        omega
  · have hn : next9 (20 : Nat) (.putC d t l h) (bump τ p) = some (.putL d t l, { bump τ p with c := τ.c + 1 }) := by
      simp only [next9]
      rw [cas_miss (bump τ p) (i := 0) (old := h) (by omega) (by show (0 : Int) < (τ.xs.length : Int); omega) he]
      rfl
    refine ⟨A, _, _, hn, .stay rfl rfl rfl rfl, M.read (D := fun i => τ.xs.getD (22 + i).toNat 0 = 1) (z := p ≠ 0 ∧ τ.steps.getD 0 0 = 0) hk (.stay rfl rfl rfl rfl) rfl rfl rfl M.own M.ended (fun e => absurd e hp) (fun _ => rfl) (fun _ => trivial) trivial, Int.le_refl _, rfl, ?_, fun i _ => rfl⟩
    simp only [cost, bump]
    rw [if_neg (Ne.symm he)]
    omega
theorem Many9.putN (M : Many9 (N + 1) all A ks τ) (hk : ks[p]? = some (.putN d t l h)) (hp : p ≠ 0) : Fares9 N p all A ks τ (.putN d t l h) := by
  have hl := M.len
  obtain ⟨o1, o2, o3, o4⟩ : ct h ≤ ct (τ.xs.getD 0 0) ∧ 0 ≤ ix h ∧ ix h < 20 ∧ τ.xs.getD (22 + ix h).toNat 0 = 1 := M.ok p _ hk
  have hn : next9 (20 : Nat) (.putN d t l h) (bump τ p) = some (.putM d t l h (τ.xs.getD (ix h + 2).toNat 0), { bump τ p with c := τ.c + 1 }) := by
    simp only [next9, lk2]
    rw [ld_at (bump τ p) (i := 2 + ix h) (by omega) (by show _ < (τ.xs.length : Int); omega), Int.add_comm 2 (ix h)]
    rfl
  refine ⟨A, _, _, hn, .stay rfl rfl rfl rfl, M.read (D := fun i => τ.xs.getD (22 + i).toNat 0 = 1) (z := p ≠ 0 ∧ τ.steps.getD 0 0 = 0) hk (.stay rfl rfl rfl rfl) rfl rfl rfl M.own M.ended (fun e => absurd e hp) (fun _ => rfl) (fun _ => trivial) ⟨o1, o2, o3, o4, fun _ => rfl⟩, Int.le_refl _, rfl, ?_, fun i _ => rfl⟩
  show cost (τ.xs.getD 0 0) (τ.xs.getD 1 0) A.bl A.rl _ < cost (τ.xs.getD 0 0) (τ.xs.getD 1 0) A.bl A.rl _
  simp only [cost]
  by_cases hq : h = τ.xs.getD 0 0
  · rw [if_pos hq, if_pos hq]; omega
  · rw [if_neg hq, if_neg hq]; omega
theorem Many9.putM (M : Many9 (N + 1) all A ks τ) (hk : ks[p]? = some (.putM d t l h x)) (hp : p ≠ 0) : Fares9 N p all A ks τ (.putM d t l h x) := by
  have hl := M.len
  obtain ⟨o1, o2, o3, o4, o5⟩ : ct h ≤ ct (τ.xs.getD 0 0) ∧ 0 ≤ ix h ∧ ix h < 20 ∧ τ.xs.getD (22 + ix h).toNat 0 = 1 ∧ (τ.xs.getD 0 0 = h → x = τ.xs.getD (ix h + 2).toNat 0) := M.ok p _ hk
  by_cases he : τ.xs.getD 0 0 = h
  · have hb := M.bx
    rw [he] at hb
    obtain ⟨b, hb0, hb1, hb2, hb3, hb4⟩ := hb.cons o2
    have hx := o5 he
    rw [← hx] at hb1 hb3 hb4
    have hnx : nx x = x - 1 := nx_small hb3 (by omega)
    have hct := ct_turn9 (old := h) (first := nx x) (by rw [← he]; exact M.c0.1) (by rw [← he]; have := M.c0.2; omega) (by omega) (by omega)
    obtain ⟨v, hv⟩ : ∃ v, v = turnTo h (nx x) := ⟨_, rfl⟩
    have hiv : ix v = x - 1 := by rw [hv, ix_turn (by omega) (by omega), hnx]
    rw [← hv] at hct
    have e1 : ∀ n : Nat, n ≠ 0 → (τ.xs.set 0 v).getD n 0 = τ.xs.getD n 0 := fun n hn => getD_set _ _ _ _ (Ne.symm hn)
    have hn : next9 (20 : Nat) (.putM d t l h x) (bump τ p) = some (.freL d t l (ix h), { bump τ p with c := τ.c + 1, xs := τ.xs.set 0 v }) := by
      simp only [next9]
      rw [cas_at (bump τ p) (i := 0) (old := h) (by omega) (by show (0 : Int) < (τ.xs.length : Int); omega) he, ← hv]
      rfl
    refine ⟨_, _, _, hn, .help hb0 o4, M.head (D := fun i => τ.xs.getD (22 + i).toNat 0 = 1) (z := p ≠ 0 ∧ τ.steps.getD 0 0 = 0) hk (.help hb0 o4) rfl ⟨hct.2, by rw [hct.1, he]⟩ (by rw [hiv]; exact hb1) rfl M.own M.ended (fun e => absurd e hp) (fun _ => rfl) (fun _ => trivial) ?_, Int.le_refl _, rfl, ?_, fun i hi => e1 _ (by omega)⟩
    · show (τ.xs.set 0 v).getD (22 + ix h).toNat 0 = 1
      rw [e1 _ (by omega)]
      exact o4
    · simp only [cost, hb0, he, if_true, List.length_cons]
      omega
  · have hn : next9 (20 : Nat) (.putM d t l h x) (bump τ p) = some (.putL d t l, { bump τ p with c := τ.c + 1 }) := by
      simp only [next9]
      rw [cas_miss (bump τ p) (i := 0) (old := h) (by omega) (by show (0 : Int) < (τ.xs.length : Int); omega) he]
      rfl
    refine ⟨A, _, _, hn, .stay rfl rfl rfl rfl, M.read (D := fun i => τ.xs.getD (22 + i).toNat 0 = 1) (z := p ≠ 0 ∧ τ.steps.getD 0 0 = 0) hk (.stay rfl rfl rfl rfl) rfl rfl rfl M.own M.ended (fun e => absurd e hp) (fun _ => rfl) (fun _ => trivial) trivial, Int.le_refl _, rfl, ?_, fun i _ => rfl⟩
    simp only [cost, bump]
    rw [if_neg (Ne.symm he)]
    omega
theorem Many9.freL (M : Many9 (N + 1) all A ks τ) (hk : ks[p]? = some (.freL d t l i)) (hp : p ≠ 0) : Fares9 N p all A ks τ (.freL d t l i) := by
  have hl := M.len
  have ho : τ.xs.getD (22 + i).toNat 0 = 1 := M.ok p _ hk
  have hn : next9 (20 : Nat) (.freL d t l i) (bump τ p) = some (.freS d t l i (τ.xs.getD 1 0), { bump τ p with c := τ.c + 1 }) := by
    simp only [next9]
    rw [ld_at (bump τ p) (i := 1) (by omega) (by show (1 : Int) < (τ.xs.length : Int); omega)]
    rfl
  refine ⟨A, _, _, hn, .stay rfl rfl rfl rfl, M.read (D := fun i => τ.xs.getD (22 + i).toNat 0 = 1) (z := p ≠ 0 ∧ τ.steps.getD 0 0 = 0) hk (.stay rfl rfl rfl rfl) rfl rfl rfl M.own M.ended (fun e => absurd e hp) (fun _ => rfl) (fun _ => trivial) ⟨ho, Int.le_refl _⟩, Int.le_refl _, rfl, ?_, fun i _ => rfl⟩
  simp [cost, bump]
theorem Many9.freS (M : Many9 (N + 1) all A ks τ) (hk : ks[p]? = some (.freS d t l i h)) (hp : p ≠ 0) : Fares9 N p all A ks τ (.freS d t l i h) := by
  have hl := M.len
  obtain ⟨o1, o2⟩ : τ.xs.getD (22 + i).toNat 0 = 1 ∧ ct h ≤ ct (τ.xs.getD 1 0) := M.ok p _ hk
  have ht : i ∈ hold (.freS d t l i h) := List.mem_cons_self
  have hr := M.inr (List.mem_append_right _ (mem_holds hk ht))
  have hn : next9 (20 : Nat) (.freS d t l i h) (bump τ p) = some (.freC d t l i h, { bump τ p with c := τ.c + 1, xs := τ.xs.set (i + 2).toNat (ix h + 1) }) := by
    simp only [next9, lk2]
    rw [sto_at (bump τ p) (i := 2 + i) (by omega) (by show _ < (τ.xs.length : Int); omega), Int.add_comm 2 i]
    rfl
  have e0 : (τ.xs.set (i + 2).toNat (ix h + 1)).getD 0 0 = τ.xs.getD 0 0 := getD_set _ _ _ _ (by omega)
  have e1 : (τ.xs.set (i + 2).toNat (ix h + 1)).getD 1 0 = τ.xs.getD 1 0 := getD_set _ _ _ _ (by omega)
  have e2 : (τ.xs.set (i + 2).toNat (ix h + 1)).getD (22 + i).toNat 0 = τ.xs.getD (22 + i).toNat 0 := getD_set _ _ _ _ (by omega)
  have et : (τ.xs.set (i + 2).toNat (ix h + 1)).getD (i + 2).toNat 0 = ix h + 1 := getD_set_self _ _ _ (by omega)
  refine ⟨A, _, _, hn, .stay rfl rfl rfl rfl, M.link (D := fun i => τ.xs.getD (22 + i).toNat 0 = 1) (z := p ≠ 0 ∧ τ.steps.getD 0 0 = 0) hk hp (.stay rfl rfl rfl rfl) ht rfl rfl trivial (show _ ∧ _ ∧ _ from ⟨by rw [e2]; exact o1, by rw [e1]; exact o2, et⟩), Int.le_refl _, rfl, ?_, fun i hi => getD_set _ _ _ _ (by omega)⟩
  show cost ((τ.xs.set (i + 2).toNat (ix h + 1)).getD 0 0) ((τ.xs.set (i + 2).toNat (ix h + 1)).getD 1 0) _ _ _ < _
  rw [e0, e1]
  simp only [cost]
  split <;> omega
theorem Many9.freC (M : Many9 (N + 1) all A ks τ) (hk : ks[p]? = some (.freC d t l i h)) (hp : p ≠ 0) : Fares9 N p all A ks τ (.freC d t l i h) := by
  have hl := M.len
  obtain ⟨o1, o2, o3⟩ : τ.xs.getD (22 + i).toNat 0 = 1 ∧ ct h ≤ ct (τ.xs.getD 1 0) ∧ τ.xs.getD (i + 2).toNat 0 = ix h + 1 := M.ok p _ hk
  have ht : i ∈ hold (.freC d t l i h) := List.mem_cons_self
  have hr := M.inr (List.mem_append_right _ (mem_holds hk ht))
  by_cases he : τ.xs.getD 1 0 = h
  · have hct := ct_turn9 (old := h) (first := i) (by rw [← he]; exact M.c1.1) (by rw [← he]; have := M.c1.2; omega) (by omega) (by omega)
    obtain ⟨v, hv⟩ : ∃ v, v = turnTo h i := ⟨_, rfl⟩
    rw [← hv] at hct
    have e1 : ∀ n : Nat, n ≠ 1 → (τ.xs.set 1 v).getD n 0 = τ.xs.getD n 0 := fun n hn => getD_set _ _ _ _ (Ne.symm hn)
    have hn : next9 (20 : Nat) (.freC d t l i h) (bump τ p) = some (.putL d t l, { bump τ p with c := τ.c + 1, xs := τ.xs.set 1 v }) := by
      simp only [next9]
      rw [cas_at (bump τ p) (i := 1) (old := h) (by omega) (by show (1 : Int) < (τ.xs.length : Int); omega) he, ← hv]
      rfl
    have hch : Chn 20 τ.xs (ix v) (i :: A.fl) := by
      have := M.fr.push hr.1 hr.2 (by omega) (by rw [he]; exact o3)
      rw [he, ← hv] at this
      exact this
    refine ⟨_, _, _, hn, .free, M.free (D := fun i => τ.xs.getD (22 + i).toNat 0 = 1) (z := p ≠ 0 ∧ τ.steps.getD 0 0 = 0) hk hp .free rfl rfl ⟨hct.2, by rw [hct.1, he]⟩ hch o1 trivial trivial, Int.le_refl _, rfl, ?_, fun j hj => e1 _ (by omega)⟩
    simp only [cost, he, if_true]
    omega
  · have hn : next9 (20 : Nat) (.freC d t l i h) (bump τ p) = some (.freL d t l i, { bump τ p with c := τ.c + 1 }) := by
      simp only [next9]
      rw [cas_miss (bump τ p) (i := 1) (old := h) (by omega) (by show (1 : Int) < (τ.xs.length : Int); omega) he]
      rfl
    refine ⟨A, _, _, hn, .stay rfl rfl rfl rfl, M.read (D := fun i => τ.xs.getD (22 + i).toNat 0 = 1) (z := p ≠ 0 ∧ τ.steps.getD 0 0 = 0) hk (.stay rfl rfl rfl rfl) rfl rfl rfl M.own M.ended (fun e => absurd e hp) (fun _ => rfl) (fun _ => trivial) o1, Int.le_refl _, rfl, ?_, fun i _ => rfl⟩
    simp only [cost, bump]
    rw [if_neg (Ne.symm he)]
    omega
theorem drained_any {σ : St R9} {y : List Int × List Int} (hy : σ.r.own[o]? = some y) (h1 : y.1.length < 1000000) (h2 : y.2.length < 1000000) : drained o n σ = some (kdr o n, endS σ o y) := by
  unfold drained
  rw [hy]
  simp only
  rw [if_pos ⟨h1, h2⟩]
  exact drains9_at _ _ _
theorem Dr.kdr (xs : List Int) : Dr xs [] (kdr 0 n) := by cases n with | zero => exact rfl | succ n => exact ⟨rfl, rfl⟩
theorem okk_kdr (xs : List Int) : Okk9 xs (kdr 0 n) := by cases n <;> trivial
theorem phase_kdr_cost {x0 x1 : Int} {bl rl : List Int} : cost x0 x1 bl rl (kdr o n) ≤ 2 * bl.length + 2 * n := by
  cases n with
  | zero => simp [kdr, cost]
  | succ n => simp [kdr, cost]; omega
theorem Many9.drL (M : Many9 (N + 1) all A ks τ) (hk : ks[0]? = some (.drL o n)) : Fares9 N 0 all A ks τ (.drL o n) := by
  have hl := M.len
  have hf := M.few
  obtain ⟨rfl, hrl⟩ : o = 0 ∧ A.rl = [] := M.dr _ hk
  by_cases hc : ix (τ.xs.getD 0 0) < 0
  · have hbl := M.bx.nil hc
    have hy : ({ bump τ 0 with c := τ.c + 1 } : St R9).r.own[0]? = some (A.got, A.ends) := M.own_at (p := 0)
    have hn : next9 (20 : Nat) (.drL 0 n) (bump τ 0) = some (kdr 0 n, endS { bump τ 0 with c := τ.c + 1 } 0 (A.got, A.ends)) := by
      simp only [next9]
      rw [ld_at (bump τ 0) (by omega) (by show (0 : Int) < (τ.xs.length : Int); omega)]
      simp only [Int.toNat_zero]
      rw [if_pos (show ix ((bump τ 0).xs.getD 0 0) < 0 from hc)]
      unfold each9
      rw [if_pos (by omega)]
      exact drained_any hy (by simp only; omega) (by simp only; omega)
    refine ⟨_, _, _, hn, .stopL hbl hrl, M.read (D := fun i => τ.xs.getD (22 + i).toNat 0 = 1) (z := True) hk (.stopL hbl hrl) rfl rfl rfl ?_ M.ended (fun _ => by rw [hrl]; exact Dr.kdr _) (fun e => absurd rfl e) (fun e => absurd rfl e) (okk_kdr _), Int.le_refl _, rfl, ?_, fun i _ => rfl⟩
    · show τ.r.own.set 0 _ = _
      rw [M.own]
      rfl
    · have := phase_kdr_cost (o := 0) (n := n) (x0 := τ.xs.getD 0 0) (x1 := τ.xs.getD 1 0) (bl := A.bl) (rl := A.rl)
      show cost (τ.xs.getD 0 0) (τ.xs.getD 1 0) A.bl A.rl (kdr 0 n) < _
      simp only [cost] at this ⊢
      omega
  · have hn : next9 (20 : Nat) (.drL 0 n) (bump τ 0) = some (.drC 0 n (τ.xs.getD 0 0), { bump τ 0 with c := τ.c + 1 }) := by
      simp only [next9]
      rw [ld_at (bump τ 0) (by omega) (by show (0 : Int) < (τ.xs.length : Int); omega)]
      simp only [Int.toNat_zero]
      rw [if_neg (show ¬ ix ((bump τ 0).xs.getD 0 0) < 0 from hc)]
      rfl
    refine ⟨A, _, _, hn, .stay rfl rfl rfl rfl, M.read (D := fun i => τ.xs.getD (22 + i).toNat 0 = 1) (z := True) hk (.stay rfl rfl rfl rfl) rfl rfl rfl M.own M.ended (fun _ => ⟨rfl, hrl⟩) (fun e => absurd rfl e) (fun e => absurd rfl e) (by show (0 : Int) ≤ _; omega), Int.le_refl _, rfl, ?_, fun i _ => rfl⟩
    simp [cost, bump]
theorem Many9.drC (M : Many9 (N + 1) all A ks τ) (hk : ks[0]? = some (.drC o n h)) : Fares9 N 0 all A ks τ (.drC o n h) := by
  have hl := M.len
  obtain ⟨rfl, hrl⟩ : o = 0 ∧ A.rl = [] := M.dr _ hk
  have ho : 0 ≤ ix h := M.ok 0 _ hk
  by_cases he : τ.xs.getD 0 0 = h
  · have hb := M.bx
    rw [he] at hb
    have hlo := ix_lo h
    have hct := ct_turn9 (old := h) (first := -1) (by rw [← he]; exact M.c0.1) (by rw [← he]; have := M.c0.2; omega) (by omega) (by omega)
    obtain ⟨v, hv⟩ : ∃ v, v = turnTo h (-1) := ⟨_, rfl⟩
    have hiv : ix v = -1 := by rw [hv, ix_turn (by omega) (by omega)]
    rw [← hv] at hct
    have e1 : ∀ n : Nat, n ≠ 0 → (τ.xs.set 0 v).getD n 0 = τ.xs.getD n 0 := fun n hn => getD_set _ _ _ _ (Ne.symm hn)
    have hn : next9 (20 : Nat) (.drC 0 n h) (bump τ 0) = some (.eaL 0 n (ix h), { bump τ 0 with c := τ.c + 1, xs := τ.xs.set 0 v }) := by
      simp only [next9]
      rw [cas_at (bump τ 0) (i := 0) (old := h) (by omega) (by show (0 : Int) < (τ.xs.length : Int); omega) he, ← hv]
      simp only [if_true, each9, if_neg (show ¬ ix h < 0 by omega), if_pos hlo.2]
      rfl
    refine ⟨_, _, _, hn, .take hrl, M.head (D := fun i => τ.xs.getD (22 + i).toNat 0 = 1) (z := True) hk (.take hrl) rfl ⟨hct.2, by rw [hct.1, he]⟩ (by rw [hiv]; exact rfl) rfl M.own M.ended (fun _ => ⟨rfl, ho, hb⟩) (fun e => absurd rfl e) (fun e => absurd rfl e) trivial, Int.le_refl _, rfl, ?_, fun i hi => e1 _ (by omega)⟩
    simp only [cost, he, if_true, List.length_nil]
    omega
  · have hn : next9 (20 : Nat) (.drC 0 n h) (bump τ 0) = some (.drL 0 n, { bump τ 0 with c := τ.c + 1 }) := by
      simp only [next9]
      rw [cas_miss (bump τ 0) (i := 0) (old := h) (by omega) (by show (0 : Int) < (τ.xs.length : Int); omega) he]
      rfl
    refine ⟨A, _, _, hn, .stay rfl rfl rfl rfl, M.read (D := fun i => τ.xs.getD (22 + i).toNat 0 = 1) (z := True) hk (.stay rfl rfl rfl rfl) rfl rfl rfl M.own M.ended (fun _ => ⟨rfl, hrl⟩) (fun e => absurd rfl e) (fun e => absurd rfl e) trivial, Int.le_refl _, rfl, ?_, fun i _ => rfl⟩
    simp only [cost, bump]
    rw [if_neg (Ne.symm he)]
    omega
theorem Many9.eaL {f : Int} (M : Many9 (N + 1) all A ks τ) (hk : ks[0]? = some (.eaL o n f)) : Fares9 N 0 all A ks τ (.eaL o n f) := by
  have hl := M.len
  have hf := M.few
  obtain ⟨rfl, hf0, hch⟩ : o = 0 ∧ 0 ≤ f ∧ Chn 20 τ.xs f A.rl := M.dr _ hk
  obtain ⟨r, hr, hb1, hb2, hb3, hb4⟩ := hch.cons hf0
  have hnx : nx (τ.xs.getD (f + 2).toNat 0) = τ.xs.getD (f + 2).toNat 0 - 1 := nx_small hb3 (by omega)
  have hy : ({ bump τ 0 with c := τ.c + 1 } : St R9).r.own[0]? = some (A.got, A.ends) := M.own_at (p := 0)
  have hn : next9 (20 : Nat) (.eaL 0 n f) (bump τ 0) = some (.eaI 0 n (τ.xs.getD (f + 2).toNat 0), tookS { bump τ 0 with c := τ.c + 1 } 0 (A.got, A.ends) f) := by
    simp only [next9, lk2]
    rw [ld_at (bump τ 0) (i := 2 + f) (by omega) (by show _ < (τ.xs.length : Int); omega), Int.add_comm 2 f]
    unfold took
    rw [hy]
    simp only
    rw [if_pos (by omega)]
    rfl
  refine ⟨_, _, _, hn, .got hr, M.read (D := fun i => τ.xs.getD (22 + i).toNat 0 = 1) (z := True) hk (.got hr) rfl rfl rfl ?_ M.ended (fun _ => ⟨rfl, by rw [hnx]; exact hb1⟩) (fun e => absurd rfl e) (fun e => absurd rfl e) trivial, Int.le_refl _, rfl, ?_, fun i _ => rfl⟩
  · show τ.r.own.set 0 _ = _
    rw [M.own]
    rfl
  · simp only [cost, hr, List.length_cons]
    omega
theorem Many9.eaI (M : Many9 (N + 1) all A ks τ) (hk : ks[0]? = some (.eaI o n x)) : Fares9 N 0 all A ks τ (.eaI o n x) := by
  have hl := M.len
  have hf := M.few
  obtain ⟨rfl, hch⟩ : o = 0 ∧ Chn 20 τ.xs (nx x) A.rl := M.dr _ hk
  have hlo := hch.lo
  by_cases hc : nx x < 0
  · have hrl := hch.nil hc
    have hn : next9 (20 : Nat) (.eaI 0 n x) (bump τ 0) = some (kdr 0 n, endS (bump τ 0) 0 (A.got, A.ends)) := by
      simp only [next9, each9, if_pos hc]
      exact drained_any M.own_at (by simp only; omega) (by simp only; omega)
    refine ⟨_, _, _, hn, .stopI hrl, M.read (D := fun i => τ.xs.getD (22 + i).toNat 0 = 1) (z := True) hk (.stopI hrl) rfl rfl rfl ?_ M.ended (fun _ => by rw [hrl]; exact Dr.kdr _) (fun e => absurd rfl e) (fun e => absurd rfl e) (okk_kdr _), by show τ.c ≤ _; omega, rfl, ?_, fun i _ => rfl⟩
    · show τ.r.own.set 0 _ = _
      rw [M.own]
      rfl
    · have := phase_kdr_cost (o := 0) (n := n) (x0 := τ.xs.getD 0 0) (x1 := τ.xs.getD 1 0) (bl := A.bl) (rl := A.rl)
      show cost (τ.xs.getD 0 0) (τ.xs.getD 1 0) A.bl A.rl (kdr 0 n) < _
      simp only [cost] at this ⊢
      omega
  · have hn : next9 (20 : Nat) (.eaI 0 n x) (bump τ 0) = some (.eaL 0 n (nx x), bump τ 0) := by
      simp only [next9, each9, if_neg hc, if_pos (show nx x < 4294967295 by omega)]
    refine ⟨A, _, _, hn, .stay rfl rfl rfl rfl, M.read (D := fun i => τ.xs.getD (22 + i).toNat 0 = 1) (z := True) hk (.stay rfl rfl rfl rfl) rfl rfl rfl M.own M.ended (fun _ => ⟨rfl, by omega, hch⟩) (fun e => absurd rfl e) (fun e => absurd rfl e) trivial, by show τ.c ≤ _; omega, rfl, ?_, fun i _ => rfl⟩
    simp [cost, bump]
theorem Many9.fares {k : K9} (M : Many9 (N + 1) all A ks τ) (hk : ks[p]? = some k) (hd : k ≠ .done) : Fares9 N p all A ks τ k := by
  cases p with
  | zero =>
    have hdr := M.dr k hk
    cases k with
    | done => exact absurd rfl hd
    | drL => exact M.drL hk
    | drC => exact M.drC hk
    | eaL => exact M.eaL hk
    | eaI => exact M.eaI hk
    | _ => exact hdr.elim
  | succ p =>
    have hpu := M.pu p k hk
    cases k with
    | done => exact absurd rfl hd
    | putL => exact M.putL hk (by omega)
    | putD => exact M.putD hk (by omega)
    | putS => exact M.putS hk (by omega)
    | putC => exact M.putC hk (by omega)
    | putN => exact M.putN hk (by omega)
    | putM => exact M.putM hk (by omega)
    | freL => exact M.freL hk (by omega)
    | freS => exact M.freS hk (by omega)
    | freC => exact M.freC hk (by omega)
    | _ => exact hpu.elim
end
end Go.Proofs.Ytndpkonihcebeaa.Kod.Nine

/- Layer 9, without memory: picks, and tasks that are finished, however others are under way. -/
namespace Go.Proofs.Ytndpkonihcebeaa.Kod.Nine
open Go.RowKit Go.Proofs.Ytndpkonihcebeaa Go.Proofs.Ytndpkonihcebeaa.Cell Go.Proofs.Ytndpkonihcebeaa.Wd
set_option linter.unusedVariables false
set_option linter.unusedSimpArgs false
/-- What stays as it is from step to step. -/
structure Keep9 (all : List Int) (I : Ab9 → List K9 → St R9 → Prop) : Prop where
  step : ∀ {N p : Nat} {A A' : Ab9} {ks : List K9} {τ σ' : St R9} {k k' : K9}, Many9 (N + 1) all A ks τ → I A ks τ → ks[p]? = some k → Tr (fun i => τ.xs.getD (22 + i).toNat 0 = 1) (p ≠ 0 ∧ τ.steps.getD 0 0 = 0) k k' A A' → σ'.steps = (bump τ p).steps → (∀ i : Int, 0 ≤ i → σ'.xs.getD (22 + i).toNat 0 = τ.xs.getD (22 + i).toNat 0) → I A' (ks.set p k') σ'
section
variable {a b : Nat} {eb : Option Nat} {N p : Nat} {all : List Int} {I : Ab9 → List K9 → St R9 → Prop} {A : Ab9} {ks : List K9} {τ : St R9}
theorem over_ks {k : K9} (hk : ks[p]? = some k) : (Nine.mk a b (20 : Nat) eb ks τ).over p = true ↔ k = .done := by
  rw [over_at (M := Nine.mk a b (20 : Nat) eb ks τ) (k := k) hk]
  exact nil9
theorem Keep9.go (K : Keep9 all I) (M : Many9 (N + 1) all A ks τ) (hI : I A ks τ) {k : K9} (hk : ks[p]? = some k) (hd : k ≠ .done) :
    ∃ A' k' σ', (Nine.mk a b (20 : Nat) eb ks τ).over p = false ∧ (Nine.mk a b (20 : Nat) eb ks τ).can p ∧ (Nine.mk a b (20 : Nat) eb ks τ).step p = Nine.mk a b (20 : Nat) eb (ks.set p k') σ' ∧ Many9 N all A' (ks.set p k') σ' ∧ I A' (ks.set p k') σ' ∧ σ'.c ≤ τ.c + 1 ∧ cost (σ'.xs.getD 0 0) (σ'.xs.getD 1 0) A'.bl A'.rl k' < cost (τ.xs.getD 0 0) (τ.xs.getD 1 0) A.bl A.rl k ∧ σ'.steps = (bump τ p).steps := by
  obtain ⟨A', k', σ', h1, h2, h3, h4, h5, h6, h7⟩ := M.fares hk hd
  obtain ⟨s1, s2, s3⟩ := step_at (a := a) (b := b) (eb := eb) hk hd h1
  exact ⟨A', k', σ', s1, s2, s3, h3, K.step M hI hk h2 h5 h7, h4, h6, h5⟩
theorem Many9.can (M : Many9 (N + 1) all A ks τ) (i : Nat) : (Nine.mk a b (20 : Nat) eb ks τ).can i := by
  cases hk : ks[i]? with
  | none =>
    intro k h1 _
    have h2 : (Nine.mk a b (20 : Nat) eb ks τ).ks[i]? = none := hk
    rw [h2] at h1
    simp at h1
  | some k =>
    by_cases hd : k = .done
    · exact can_over ((over_ks hk).2 hd)
    · obtain ⟨A', k', σ', h1, _⟩ := M.fares hk hd
      exact (step_at (a := a) (b := b) (eb := eb) hk hd h1).2.1
/-- Picks. -/
theorem Keep9.pre (K : Keep9 all I) (ps : List Int) (M : Many9 (N + ps.length) all A ks τ) (hI : I A ks τ) : ∀ k : Nat, k ≤ ps.length → ∃ A' ks' τ', ((Nine.mk a b (20 : Nat) eb ks τ).run (ps.take k)).1 = Nine.mk a b (20 : Nat) eb ks' τ' ∧ Many9 (N + (ps.length - k)) all A' ks' τ' ∧ I A' ks' τ' ∧ ks'.length = ks.length ∧ τ'.c ≤ τ.c + k ∧ τ'.steps.length = τ.steps.length := by
  intro k
  induction k with
  | zero => exact fun _ => ⟨A, ks, τ, rfl, M, hI, rfl, by omega, rfl⟩
  | succ k ih =>
    intro hk
    obtain ⟨A', ks', τ', h1, h2, h3, h4, h5, h6⟩ := ih (by omega)
    rw [run_snoc _ ps (by omega)]
    unfold Mach.pick
    rw [h1]
    split
    · rename_i hm
      unfold Mach.may at hm
      simp only [Bool.and_eq_true, decide_eq_true_eq, Bool.not_eq_true'] at hm
      obtain ⟨⟨m1, m2⟩, m3⟩ := hm
      have hlt : (ps[k]'(by omega)).toNat < ks'.length := by
        have : ((ps[k]'(by omega) : Int)) < (ks'.length : Int) := m2
        omega
      have hkk := List.getElem?_eq_getElem hlt
      have hd : ks'[(ps[k]'(by omega)).toNat] ≠ .done := fun e => by
        have := (over_ks (a := a) (b := b) (eb := eb) (τ := τ') hkk).2 e
        rw [this] at m3
        simp at m3
      rw [show N + (ps.length - k) = (N + (ps.length - (k + 1))) + 1 by omega] at h2
      obtain ⟨A2, k2, σ2, g1, g2, g3, g4, g5, g6, g7, g8⟩ := K.go (a := a) (b := b) (eb := eb) h2 h3 hkk hd
      refine ⟨A2, _, σ2, g3, g4, g5, by simpa using h4, by omega, ?_⟩
      rw [g8]
      simpa [bump] using h6
    · exact ⟨A', ks', τ', h1, h2.lower (by omega), h3, h4, by omega, h6⟩
/-- A task is finished. -/
theorem Keep9.alone (K : Keep9 all I) (p : Nat) : ∀ (C N : Nat) (A : Ab9) (ks : List K9) (τ : St R9) (k : K9), Many9 (N + C) all A ks τ → I A ks τ → ks[p]? = some k → cost (τ.xs.getD 0 0) (τ.xs.getD 1 0) A.bl A.rl k ≤ C → ∃ t A' τ', t ≤ C ∧ Way p t (Nine.mk a b (20 : Nat) eb ks τ) (Nine.mk a b (20 : Nat) eb (ks.set p .done) τ') ∧ Many9 N all A' (ks.set p .done) τ' ∧ I A' (ks.set p .done) τ' := by
  intro C
  induction C with
  | zero =>
    intro N A ks τ k M hI hk hc
    have hkd : k = .done := by
      cases k <;> simp [cost] at hc
      case done => rfl
      all_goals first | (exfalso; split at hc <;> omega) | skip
      case eaL o n f =>
        have hp : p = 0 := by
          cases p with
          | zero => rfl
          | succ p => exact (M.pu p _ hk).elim
        subst hp
        obtain ⟨_, hf, hch⟩ := M.dr _ hk
        obtain ⟨r, hr, _⟩ := hch.cons hf
        rw [hr] at hc
        simp at hc
    subst hkd
    rw [show ks.set p K9.done = ks from Kod.set_id hk]
    exact ⟨0, A, τ, Nat.le_refl _, .stop _, M, hI⟩
  | succ C ih =>
    intro N A ks τ k M hI hk hc
    by_cases hd : k = .done
    · subst hd
      rw [show ks.set p K9.done = ks from Kod.set_id hk]
      exact ⟨0, A, τ, Nat.zero_le _, .stop _, M.lower (by omega), hI⟩
    · obtain ⟨A2, k2, σ2, g1, g2, g3, g4, g5, g6, g7, g8⟩ := K.go (a := a) (b := b) (eb := eb) (N := N + C) M hI hk hd
      have hp := (List.getElem?_eq_some_iff.1 hk).1
      obtain ⟨t, A3, τ3, ht, hw, hM, hJ⟩ := ih N A2 (ks.set p k2) σ2 k2 g4 g5 (List.getElem?_set_self hp) (by omega)
      rw [List.set_set] at hw hM hJ
      refine ⟨t + 1, A3, τ3, by omega, .go g1 g2 ?_, hM, hJ⟩
      rw [g3]
      exact hw
theorem Many9.counts (M : Many9 N all A ks τ) : A.bl.length + A.fl.length + A.rl.length + A.got.length + (holds ks).length ≤ 20 := by
  have h1 := few_of 20 _ M.nodup (fun i hi => M.inr hi)
  simp [Ab9.all] at h1
  omega
theorem Many9.cost_le (M : Many9 N all A ks τ) {k : K9} (hk : ks[p]? = some k) (hl : left k ≤ 8) : cost (τ.xs.getD 0 0) (τ.xs.getD 1 0) A.bl A.rl k ≤ 250 := by
  have h1 := M.counts
  obtain ⟨U, V, e, _⟩ := holds_set ks p k hk
  have h2 : (hold k).length ≤ (holds ks).length := by rw [e]; simp; omega
  cases k <;> simp only [hold, left, cost, List.length_cons] at h2 hl ⊢
  all_goals first | omega | (split <;> omega)
end
section
variable {a b : Nat} {eb : Option Nat} {N p : Nat} {all : List Int} {I : Ab9 → List K9 → St R9 → Prop} {A : Ab9} {ks : List K9} {τ : St R9}
variable {B m n : Nat} {ts gh : List Nat} {C : List (K9 × Value)} {Z : List (Option Addr × List Value)} {own : Nat → Prop} {w0 wr w' : World}
/-- Run. -/
theorem Keep9.run_c (K : Keep9 all I) (ps : List Int) (h : Grp (S9 a b (20 : Nat) eb) B (m + ps.length) (n + 2 * ps.length) (Nine.mk a b (20 : Nat) eb ks τ) ts gh C Z own w0 wr) (M : Many9 (N + ps.length) all A ks τ) (hI : I A ks τ) {A1 A2 : Option Addr} {n1 n2 c1 c2 : Nat} (hN : Hid (n1 = ts.length)) (hN' : Hid (n2 = ps.length)) (hn : (n1 : Int) ≤ 9223372036854775807)
    (hl : (A1, ptrs ts) ∈ Z) (hp : (A2, ps.map (.int .i64)) ∈ Z) :
    Calls Try.prog 17 #[.slice A1 n1 c1, .slice A2 n2 c2] wr fun e w' => (∃ z, e = .returned (.int .i64 z)) ∧ ∃ A' ks' τ', Hid (Grp (S9 a b (20 : Nat) eb) B m n (Nine.mk a b (20 : Nat) eb ks' τ') ts gh C Z own w0 w') ∧ Many9 N all A' ks' τ' ∧ I A' ks' τ' ∧ ks'.length = ks.length ∧ τ'.c ≤ τ.c + ps.length ∧ τ'.steps.length = τ.steps.length ∧ Same own wr w' := by
  have hpre := K.pre (a := a) (b := b) (eb := eb) ps M hI
  refine (Grp.run_c ps h hN hN' hn hl hp (fun k hk i => ?_)).mono ?_
  · obtain ⟨A', ks', τ', h1, h2, _⟩ := hpre k (by omega)
    rw [h1]
    rw [show N + (ps.length - k) = (N + (ps.length - k - 1)) + 1 by omega] at h2
    exact h2.can i
  · rintro e w2 ⟨rfl, hg, hs⟩
    obtain ⟨A', ks', τ', h1, h2, h3, h4, h5, h6⟩ := hpre ps.length (Nat.le_refl _)
    rw [List.take_length] at h1
    rw [h1] at hg
    exact ⟨⟨_, rfl⟩, A', ks', τ', hg, by simpa using h2, h3, h4, h5, h6, hs⟩
/-- Finish. -/
theorem Keep9.finish_c (K : Keep9 all I) {k : K9} {tb most : Nat} (h : Grp (S9 a b (20 : Nat) eb) B (m + 250) (n + 2 * 250) (Nine.mk a b (20 : Nat) eb ks τ) ts gh C Z own w0 wr) (M : Many9 (N + 250) all A ks τ) (hI : I A ks τ) (ht : ts[p]? = some tb) (hk : ks[p]? = some k) (hl : left k ≤ 8) (hm : 250 ≤ most) :
    Calls Try.prog 18 #[.pointer (some ⟨tb, 0, none⟩), .int .i64 (most : Int)] wr fun e w1 => e = .returned (.bool true) ∧ ∃ A' τ', Hid (Grp (S9 a b (20 : Nat) eb) B m n (Nine.mk a b (20 : Nat) eb (ks.set p .done) τ') ts gh C Z own w0 w1) ∧ Many9 N all A' (ks.set p .done) τ' ∧ I A' (ks.set p .done) τ' ∧ Same own wr w1 := by
  obtain ⟨t, A', τ', htN, hw, hM, hJ⟩ := K.alone (a := a) (b := b) (eb := eb) p 250 N A ks τ k M hI hk (M.cost_le hk hl)
  obtain ⟨h1, h2⟩ := hw.fin
  have hp := (List.getElem?_eq_some_iff.1 hk).1
  have ho : (Nine.mk a b (20 : Nat) eb (ks.set p .done) τ').over p = true := over_done (List.getElem?_set_self hp)
  have h3 : ∀ d, (Nine.mk a b (20 : Nat) eb ks τ).fin p (t + d) = Nine.mk a b (20 : Nat) eb (ks.set p .done) τ' := fun d => by rw [Mach.fin_over (by rw [h1]; exact ho) d, h1]
  have h5 := h3 (most - t)
  rw [show t + (most - t) = most by omega] at h5
  refine (Grp.finish_c (N := 250) h ht (most : Int) (fun j _ hj => ?_) (fun j _ => ?_)).mono ?_
  · by_cases hjt : j < t
    · omega
    · have h5 := h3 (j - t)
      rw [show t + (j - t) = j by omega] at h5
      rw [h5, ho] at hj
      simp at hj
  · by_cases hjt : j < t
    · exact (h2 j hjt).2
    · have h5 := h3 (j - t)
      rw [show t + (j - t) = j by omega] at h5
      rw [h5]
      exact can_over ho
  · rintro e w1 ⟨rfl, hg, hs⟩
    rw [show ((most : Int)).toNat = most by omega, h5] at hg ⊢
    exact ⟨by rw [ho], A', τ', hg, hM, hJ, hs⟩
end
end Go.Proofs.Ytndpkonihcebeaa.Kod.Nine

/- Layer 9's laws over many tasks: what a law has while it makes them, and lets them go on. -/
namespace Go.Proofs.Ytndpkonihcebeaa.Kod.Nine
open Go.RowKit Go.Proofs.Ytndpkonihcebeaa Go.Proofs.Ytndpkonihcebeaa.Cell Go.Proofs.Ytndpkonihcebeaa.Wd
set_option linter.unusedVariables false
set_option linter.unusedSimpArgs false

theorem rowE_later {w w' : World} {B n : Nat} {E : TypeId} {v : Value} {xs : List Value} (h : w.ownsRow B E 1 v n xs) (hs : ∀ k : Nat, v.ownBlock = some k → w'.heap[k]? = w.heap[k]?) : w'.ownsRow B E 1 v n xs := by
  obtain ⟨h0, h1⟩ := h
  refine ⟨h0, ?_⟩
  rcases h1 with h1 | ⟨g, cap, cur, rfl, hb, hg, hr⟩
  · exact Or.inl h1
  · exact Or.inr ⟨g, cap, cur, rfl, hb, (hs g rfl).trans hg, hr⟩
/-- A worker's tickets. -/
def mine (ms : List Nat) (i : Nat) : List Int := nums9 (5 * (i : Int)) (ms.getD i 0)
/-- The first workers' tickets. -/
def allm (ms : List Nat) : Nat → List Int
  | 0 => []
  | i + 1 => allm ms i ++ mine ms i
/-- The first codes. -/
def kms (k0 : K9) (ms : List Nat) (i : Nat) : List K9 := k0 :: (List.range i).map fun j => kput false (mine ms j)
theorem kms_succ (k0 : K9) (ms : List Nat) (i : Nat) : kms k0 ms i ++ [kput false (mine ms i)] = kms k0 ms (i + 1) := by simp [kms, List.range_succ]
theorem kms_at {k0 : K9} {ms : List Nat} {i p : Nat} {k : K9} (h : (kms k0 ms i)[p + 1]? = some k) : p < i ∧ k = kput false (mine ms p) := by
  simp only [kms, List.getElem?_cons_succ, List.getElem?_map] at h
  by_cases hp : p < i
  · rw [List.getElem?_range hp] at h
    exact ⟨hp, (Option.some.inj h).symm⟩
  · rw [List.getElem?_eq_none (by simp; omega)] at h
    simp at h
theorem holds_kms (nd : Nat) (ms : List Nat) (i : Nat) : holds (kms (kdr 0 nd) ms i) = allm ms i := by
  induction i with
  | zero => simp [holds, kms, allm, hold_kdr]
  | succ i ih =>
    rw [← kms_succ, allm, ← ih]
    simp [holds, hold_kput]
theorem allm_rng {ms : List Nat} (hm : ∀ j, ms.getD j 0 ≤ 5) : ∀ {i : Nat} {x : Int}, x ∈ allm ms i → 0 ≤ x ∧ x < 5 * (i : Int)
  | 0, x, h => by simp [allm] at h
  | i + 1, x, h => by
    rcases List.mem_append.1 h with h | h
    · have := allm_rng hm h; omega
    · have h1 := nums9_mem h
      have := hm i
      omega
theorem allm_once {ms : List Nat} (hm : ∀ j, ms.getD j 0 ≤ 5) : ∀ i : Nat, (allm ms i).Nodup
  | 0 => by simp [allm]
  | i + 1 => by
    refine List.nodup_append.2 ⟨allm_once hm i, nums9_once _ _, fun x hx y hy e => ?_⟩
    have h1 := allm_rng hm hx
    have h2 := nums9_mem hy
    omega
/-- Codes are made: i of those who put. -/
structure Mid9 (a b ba bn B g ob : Nat) (k0 : K9) (ms : List Nat) (i : Nat) (tv av : Value) (F : List Int) (zs : List (Option Addr × List Value)) (w0 wr : World) : Prop where
  ex : ∃ ts Z, Grp (S9 a b (20 : Nat) none) B 4000 12000 (Nine.mk a b (20 : Nat) none (kms k0 ms i) ⟨0, List.replicate (2 + 2 * 20) 0, List.replicate (i + 1) 0, ⟨[([], [])], []⟩⟩) ts [ob] [] Z (fun q => tv.ownBlock = some q ∨ av.ownBlock = some q) w0 wr ∧ Bx9 a ba bn g Z ∧ (∀ z ∈ zs, z ∈ Z) ∧ wr.ownsRow B 37 1 tv (i + 1) (ptrs ts) ∧ wr.ownsRow B 3 1 av F.length (F.map (.int .i64)) ∧ (∀ j, tv.ownBlock = some j → av.ownBlock ≠ some j)
variable {a b ba bn B g ob i : Nat} {k0 : K9} {ms : List Nat} {tv av : Value} {F : List Int} {zs : List (Option Addr × List Value)} {w0 wr w' : World}
theorem Mid9.seven (h : Mid9 a b ba bn B g ob k0 ms i tv av F zs w0 wr) : Seven a ba bn g wr := by
  obtain ⟨ts, Z, hG, hb, _⟩ := h.ex
  exact Grp.seven hG hb.1
theorem Mid9.le (h : Mid9 a b ba bn B g ob k0 ms i tv av F zs w0 wr) : B ≤ wr.heap.size ∧ Below B w0 wr := by
  obtain ⟨ts, Z, hG, _⟩ := h.ex
  exact ⟨hG.bel_le, hG.bel⟩
theorem Mid9.arow (h : Mid9 a b ba bn B g ob k0 ms i tv av F zs w0 wr) : wr.ownsRow B 3 1 av F.length (F.map (.int .i64)) := by
  obtain ⟨ts, Z, hG, hb, hz, h1, h2, h3⟩ := h.ex
  exact h2
/-- The worker's row is noted. -/
theorem Mid9.note {c m : Nat} {A : Option Addr} {l : List Int} (h : Mid9 a b ba bn B g ob k0 ms i tv av F [] w0 w') (hk : Grw w' wr A c m l) : Mid9 a b ba bn B g ob k0 ms i tv av F [(A, l.map (.int .i64))] w0 wr ∧ m ≤ c ∧ c ≤ maxLen ∧ Reads wr A m (l.map (.int .i64)) := by
  obtain ⟨ts, Z, hG, hb, hz, h1, h2, h3⟩ := h.ex
  obtain ⟨A', c', e, -, q1, q2, hG2⟩ := hG.note hk.bel hk.row
  simp only [Value.slice.injEq] at e
  obtain ⟨rfl, -, rfl⟩ := e
  have hs := hG.same_made hk.bel
  refine ⟨⟨ts, _, hG2, hb.mono fun z hz => List.mem_cons_of_mem _ hz, fun z hz => ?_, hs.row (fun k hk => Or.inl hk) h1, hs.row (fun k hk => Or.inr hk) h2, h3⟩, q1, q2, reads_own hk.row⟩
  obtain rfl := List.mem_singleton.1 hz
  exact List.mem_cons_self
/-- What all have grows. -/
theorem Mid9.grow {n' c' : Nat} {A' : Option Addr} {l : List Int} {An : Option Addr} {nn cc : Nat} (h : Mid9 a b ba bn B g ob k0 ms i tv (.slice An nn cc) F zs w0 wr) (hown : w'.ownsRow B 3 1 (.slice A' n' c') n' (F.map (.int .i64) ++ l.map (.int .i64))) (hgrow : wr.grownBy w' (Value.slice An nn cc).ownBlock) (hat : (Value.slice A' n' c').ownBlock = (Value.slice An nn cc).ownBlock ∨ (Value.slice A' n' c').ownBlock = some wr.heap.size) :
    Mid9 a b ba bn B g ob k0 ms i tv (.slice A' n' c') (F ++ l) zs w0 w' ∧ n' = (F ++ l).length := by
  obtain ⟨ts, Z, hG, hb, hz, h1, h2, h3⟩ := h.ex
  have hn : n' = (F ++ l).length := by have := hown.1; simp at this ⊢; omega
  have hs := hgrow.size
  refine ⟨⟨ts, Z, hG.rescr (X := fun q => tv.ownBlock = some q ∨ (Value.slice A' n' c').ownBlock = some q) ((Wrote.of_grown hgrow).mono fun k _ hk => Or.inr hk) (fun k hk => ?_), hb, hz, ?_, ?_, fun j hj => ?_⟩, hn⟩
  · rcases hk with hk | hk
    · exact ⟨Or.inl (Or.inl hk), by have := (h1.lt k hk).2; omega⟩
    · refine ⟨?_, (hown.lt k hk).2⟩
      rcases hat with e | e
      · exact Or.inl (Or.inr (e.symm.trans hk))
      · right
        have := e.symm.trans hk
        simp only [Option.some.injEq] at this
        omega
  · exact rowE_later h1 fun k hk => hgrow.block k (h1.lt k hk).2 (fun e => h3 k hk e.symm)
  · rw [← hn, List.map_append]
    exact hown
  · rcases hat with e | e
    · rw [e]; exact h3 j hj
    · rw [e]
      have := (h1.lt j hj).2
      intro e2
      simp only [Option.some.injEq] at e2
      omega
/-- A code more, a task more. -/
theorem Mid9.puts {At : Option Addr} {nt ct c m : Nat} {A : Option Addr} (hi : i < 4) (hm : ∀ j, ms.getD j 0 ≤ 5) (hmi : m = ms.getD i 0) (hc : m ≤ c ∧ c ≤ maxLen) (h : Mid9 a b ba bn B g ob k0 ms i (.slice At nt ct) av F [(A, (mine ms i).map (.int .i64))] w0 wr) :
    Seven a ba bn g wr ∧ Hid (Calls Try.prog 16 #[.agg (bxf a ba bn), .slice A m c, .nilFunc] wr fun e w2 => ∃ v, e = .returned v ∧ (v = .nilFunc ∨ ∃ f cap, v = .func (.func f) #[] cap) ∧
      Hid (Calls Try.prog 14 #[v] w2 fun e w3 => ∃ tb ts, e = .returned (.pointer (some ⟨tb, 0, none⟩)) ∧ Hid (w3.ownsRow B 37 1 (.slice At nt ct) (i + 1) ts) ∧ B ≤ w3.heap.size ∧
        Hid (∀ (o : Obj) (A2 : Option Addr) (c2 : Nat) (w4 : World), w4.ownsRow B 37 1 (.slice A2 (i + 1 + 1) c2) (i + 1 + 1) (ts ++ [.pointer (some ⟨tb, 0, none⟩)]) → (w3.alloc o).grownBy w4 (Value.slice At nt ct).ownBlock → ((Value.slice A2 (i + 1 + 1) c2).ownBlock = (Value.slice At nt ct).ownBlock ∨ (Value.slice A2 (i + 1 + 1) c2).ownBlock = some (w3.alloc o).heap.size) →
          Mid9 a b ba bn B g ob k0 ms (i + 1) (.slice A2 (i + 1 + 1) c2) av F [] w0 w4))) := by
  obtain ⟨ts, Z, hG, hb, hz, h1, h2, h3⟩ := h.ex
  have ml : maxLen ≤ 9223372036854775807 := by unfold maxLen; omega
  have hml := hm i
  refine ⟨Grp.seven hG hb.1, ?_⟩
  refine (Grp.puts9 (N := m) (c := c) (ba := ba) (bn := bn) (l := mine ms i) hG (Lib.hid (by rw [hmi]; exact (nums9_len _ _).symm)) hc.1 (by omega) (by omega) (by omega) (hz _ List.mem_cons_self) hb.2.1 hb.2.2 (fun t ht => by have := nums9_mem ht; omega)).mono ?_
  rintro e w2 ⟨v, rfl, hv, hG2, hs2⟩
  refine ⟨v, rfl, hv, ?_⟩
  refine (Grp.new_c hG2.out List.mem_cons_self).mono ?_
  rintro e w3 ⟨rfl, hm3, hsz3, hG3⟩
  have hs3 := hs2.trans (hG2.out.same_made hm3)
  have h13 := hs3.row (fun k hk => Or.inl hk) h1
  have h23 := hs3.row (fun k hk => Or.inr hk) h2
  refine ⟨_, ptrs ts, rfl, h13, hG3.out.bel_le, ?_⟩
  intro o A2 c2 w4 hown hgrow hat
  have hmo : Made w3 (w3.alloc o) := (Made.refl _).alloc (Nat.le_refl _) _
  have hG4 := hG3.out.later hmo
  have hs4 := hG3.out.same_made hmo
  have h14 := hs4.row (fun k hk => Or.inl hk) h13
  have h24 := hs4.row (fun k hk => Or.inr hk) h23
  have hsz := hgrow.size
  have hks := kms_succ k0 ms i
  have hG5 := (hG4.drop (C' := []) (fun c hc => by simp at hc) (fun z hz => hz)).rescr (w' := w4) (X := fun q => (Value.slice A2 (i + 1 + 1) c2).ownBlock = some q ∨ av.ownBlock = some q) ((Wrote.of_grown hgrow).mono fun k _ hk => Or.inl hk) (fun k hk => by
    rcases hk with hk | hk
    · refine ⟨?_, (hown.lt k hk).2⟩
      rcases hat with e | e
      · exact Or.inl (Or.inl (e.symm.trans hk))
      · right
        have := e.symm.trans hk
        simp only [Option.some.injEq] at this
        omega
    · exact ⟨Or.inl (Or.inr hk), by have := (h24.lt k hk).2; omega⟩)
  refine ⟨ts ++ [w2.heap.size], Z, ?_, hb, fun z hz => by simp at hz, ?_, ?_, fun j hj => ?_⟩
  · have e2 : (List.replicate (i + 1) 0 ++ [0] : List Nat) = List.replicate (i + 1 + 1) 0 := (List.replicate_succ' (n := i + 1) (a := 0)).symm
    rw [← hks, ← e2]
    exact hG5
  · simp only [ptrs, List.map_append, List.map_cons, List.map_nil] at hown ⊢
    exact hown
  · exact rowE_later h24 fun k hk => hgrow.block k (h24.lt k hk).2 (fun e => h3 k e.symm hk)
  · rcases hat with e | e
    · rw [e] at hj
      exact h3 j hj
    · rw [e] at hj
      simp only [Option.some.injEq] at hj
      intro e2
      have := (h24.lt j e2).2
      omega
/-- The beginning. -/
theorem Mid9.start {nd : Nat} {w1 : World} (hA : Arena w1 a b 0 (List.replicate (2 + 2 * 20) 0)) (ha : B ≤ a) (hb : B ≤ b) (n1 : ba ≠ a) (n2 : ba ≠ b) (n3 : bn ≠ a) (n4 : bn ≠ b) (hba : w1.cell? ⟨ba, 0, none⟩ = some (.pointer (some ⟨a, 0, none⟩))) (hbn : w1.cell? ⟨bn, 0, none⟩ = some (.int .i64 ((20 : Nat) : Int))) (hB : Below B w0 w1) (hle : B ≤ w1.heap.size) (hnd : nd < 1000000) (ms : List Nat) :
    Seven a ba bn w1.heap.size ((w1.alloc (.cells (bxf a ba bn) 31)).alloc (.cells #[.slice none 0 0, .slice none 0 0] 36)) ∧
    Hid (Calls Try.prog 15 #[.agg (bxf a ba bn), .int .i64 (nd : Int), .pointer (some ⟨w1.heap.size + 1, 0, none⟩)] ((w1.alloc (.cells (bxf a ba bn) 31)).alloc (.cells #[.slice none 0 0, .slice none 0 0] 36)) fun e w2 => ∃ v, e = .returned v ∧ (v = .nilFunc ∨ ∃ f cap, v = .func (.func f) #[] cap) ∧
      Hid (Calls Try.prog 14 #[v] w2 fun e w3 => ∃ tb, e = .returned (.pointer (some ⟨tb, 0, none⟩)) ∧
        Hid (Mid9 a b ba bn B w1.heap.size (w1.heap.size + 1) (kdr 0 nd) ms 0 (.slice (some ⟨w3.heap.size, 0, none⟩) 1 1) (.slice none 0 0) [] [] w0 (w3.alloc (.cells #[.pointer (some ⟨tb, 0, none⟩)] 37))))) := by
  have h0 := Grp.begin9 (m := 4000) (n := 12000) hA (by omega) (by omega) ha hb n1 n2 n3 n4 hba hbn hB hle
  have h1 := h0.box (w' := w1.alloc (.cells (bxf a ba bn) 31)) ((Made.refl w1).alloc (Nat.le_refl _) _) (Nat.le_refl _) (heap_alloc_new _ _)
  have h2 := (Grp.owner9 h1 (w' := (w1.alloc (.cells (bxf a ba bn) 31)).alloc (.cells #[.slice none 0 0, .slice none 0 0] 36)) ((Made.refl _).alloc (Nat.le_refl _) _) (Nat.le_refl _) (heap_alloc_new _ _)).1
  simp only [World.size_alloc] at h2
  refine ⟨Grp.seven h2 (by simp), ?_⟩
  refine (Grp.drains9 (o := 0) (k := nd) (ba := ba) (bn := bn) h2 rfl hnd).mono ?_
  rintro e w2 ⟨v, rfl, hv, hG2, hs2⟩
  refine ⟨v, rfl, hv, ?_⟩
  refine (Grp.new_c hG2.out List.mem_cons_self).mono ?_
  rintro e w3 ⟨rfl, hm3, hsz3, hG3⟩
  refine ⟨_, rfl, ?_⟩
  have hmo : Made w3 (w3.alloc (.cells #[.pointer (some ⟨w2.heap.size, 0, none⟩)] 37)) := (Made.refl _).alloc (Nat.le_refl _) _
  have hG4 := (hG3.out.drop (C' := []) (fun c hc => by simp at hc) (fun z hz => hz)).rescr (X := fun q => (Value.slice (some ⟨w3.heap.size, 0, none⟩) 1 1).ownBlock = some q ∨ (Value.slice none 0 0).ownBlock = some q) (Wrote.of_made hmo) (fun k hk => by
    rcases hk with hk | hk
    · obtain rfl : w3.heap.size = k := by simpa [Value.ownBlock] using hk
      exact ⟨Or.inr (Nat.le_refl _), by simp⟩
    · simp [Value.ownBlock] at hk)
  have hB3 := hG3.out.bel_le
  refine ⟨[w2.heap.size], _, hG4, ⟨by simp, by simp, by simp⟩, fun z hz => by simp at hz, ?_, World.ownsRow_nil _ _ _ _, fun j _ => by simp [Value.ownBlock]⟩
  exact World.ownsRow_lit (e := 37) (base := B) (size := 1) w3 #[.pointer (some ⟨w2.heap.size, 0, none⟩)] 1 hB3 (by unfold maxLen; omega) (by simp)
/-- The invariant at the beginning. -/
theorem Many9.zero (ms : List Nat) (hm : ∀ j, ms.getD j 0 ≤ 5) (nd N : Nat) (hN : N ≤ 900000) (L : List Nat) : Many9 N (allm ms 4) ⟨[], [], [], [], [], []⟩ (kms (kdr 0 nd) ms 4) ⟨0, List.replicate (2 + 2 * 20) 0, L, ⟨[([], [])], []⟩⟩ := by
  have e : ∀ k : Nat, (List.replicate (2 + 2 * 20) (0 : Int)).getD k 0 = 0 := fun k => by
    rw [List.getD_eq_getElem?_getD, List.getElem?_replicate]
    split <;> rfl
  have hix : ix 0 = -1 := rfl
  have hct : ct 0 = 0 := rfl
  refine ⟨by simp, by simp only [e]; exact hix, by simp only [e]; exact hix, rfl, rfl, ?_, by simp; omega, allm_once hm 4, fun i hi => by have := allm_rng hm hi; omega, fun k hk => ?_, fun p k hk => ?_, fun p k hk => ?_, by simp, ?_, ?_⟩
  · rw [holds_kms]
    exact List.Perm.refl _
  · obtain rfl : kdr 0 nd = k := by simpa [kms] using hk
    exact Dr.kdr _
  · obtain ⟨_, rfl⟩ := kms_at hk
    exact Pu.kput _ _
  · cases p with
    | zero =>
      obtain rfl : kdr 0 nd = k := by simpa [kms] using hk
      exact okk_kdr _
    | succ p =>
      obtain ⟨_, rfl⟩ := kms_at hk
      cases mine ms p <;> trivial
  · simp only [e]
    omega
  · simp only [e]
    omega
theorem Tr.left {D : Int → Prop} {z : Prop} {k k' : K9} {A A' : Ab9} (h : Tr D z k k' A A') : left k' ≤ left k := by
  cases h with
  | stay h hp hl ht => omega
  | @put d t l h A e he => cases l <;> simp [kput, Nine.left]
  | @stopL o n A hb hr => cases n <;> simp [kdr, Nine.left]
  | @stopI o n x A hr => cases n <;> simp [kdr, Nine.left]
  | _ => simp [Nine.left]
theorem Pu.left {k : K9} (h : Pu k) : left k = 0 := by cases k <;> first | rfl | exact h.elim
/-- Few drains are still to be begun. -/
def I8 (A : Ab9) (ks : List K9) (τ : St R9) : Prop := ∀ k, ks[0]? = some k → left k ≤ 8
theorem keep8 {all : List Int} : Keep9 all I8 := ⟨fun {N p A A' ks τ σ' k k'} M hI hk tr _ _ k2 h2 => by
  have hp := (List.getElem?_eq_some_iff.1 hk).1
  by_cases hp0 : p = 0
  · subst hp0
    simp [hp] at h2
    subst h2
    exact Nat.le_trans tr.left (hI k hk)
  · rw [List.getElem?_set_ne hp0] at h2
    exact hI k2 h2⟩
end Go.Proofs.Ytndpkonihcebeaa.Kod.Nine

/- Layer 9's laws over many tasks: picks, and ends, as a law has them. -/
namespace Go.Proofs.Ytndpkonihcebeaa.Kod.Nine
open Go.RowKit Go.Proofs.Ytndpkonihcebeaa Go.Proofs.Ytndpkonihcebeaa.Cell Go.Proofs.Ytndpkonihcebeaa.Wd
set_option linter.unusedVariables false
set_option linter.unusedSimpArgs false

/-- Tasks are under way; those in dn have ended. -/
structure Pk9 (a b ba bn B g ob N n : Nat) (all : List Int) (I : Ab9 → List K9 → St R9 → Prop) (dn : Nat → Prop) (At : Option Addr) (zs : List (Option Addr × List Value)) (w0 wr : World) : Prop where
  ex : ∃ ks τ A ts Z, Grp (S9 a b (20 : Nat) none) B N n (Nine.mk a b (20 : Nat) none ks τ) ts [ob] [] Z (fun _ => False) w0 wr ∧ Many9 N all A ks τ ∧ I A ks τ ∧ ks.length = 5 ∧ ts.length = 5 ∧ Bx9 a ba bn g Z ∧ (At, ptrs ts) ∈ Z ∧ (∀ z ∈ zs, z ∈ Z) ∧ (∀ j, dn j → ks[j]? = some .done)
section
variable {a b ba bn B g ob N n : Nat} {all : List Int} {I : Ab9 → List K9 → St R9 → Prop} {dn : Nat → Prop} {At : Option Addr} {zs : List (Option Addr × List Value)} {w0 wr w' : World}
theorem Pk9.seven (h : Pk9 a b ba bn B g ob N n all I dn At zs w0 wr) : Seven a ba bn g wr := by
  obtain ⟨ks, τ, A, ts, Z, hG, hM, hI, h1, h2, h3, _⟩ := h.ex
  exact Grp.seven hG h3.1
theorem Pk9.bel (h : Pk9 a b ba bn B g ob N n all I dn At zs w0 wr) : Below B w0 wr := by
  obtain ⟨ks, τ, A, ts, Z, hG, _⟩ := h.ex
  exact hG.bel
theorem Pk9.lower {N' n' : Nat} (h : Pk9 a b ba bn B g ob N n all I dn At zs w0 wr) (h1 : N' ≤ N) (h2 : n' ≤ n) : Pk9 a b ba bn B g ob N' n' all I dn At zs w0 wr := by
  obtain ⟨ks, τ, A, ts, Z, hG, hM, hr⟩ := h.ex
  exact ⟨ks, τ, A, ts, Z, hG.lower h1 h2, hM.lower h1, hr⟩
theorem Pk9.later (h : Pk9 a b ba bn B g ob N n all I dn At zs w0 wr) (hm : Made wr w') : Pk9 a b ba bn B g ob N n all I dn At zs w0 w' := by
  obtain ⟨ks, τ, A, ts, Z, hG, hr⟩ := h.ex
  exact ⟨ks, τ, A, ts, Z, hG.later hm, hr⟩
/-- Tasks are made; no more slices grow. -/
theorem Mid9.seal {ms : List Nat} {Aa : Option Addr} {nt ct na ca nd : Nat} {F : List Int} (hm : ∀ j, ms.getD j 0 ≤ 5) (hI : I ⟨[], [], [], [], [], []⟩ (kms (kdr 0 nd) ms 4) ⟨0, List.replicate (2 + 2 * 20) 0, List.replicate 5 0, ⟨[([], [])], []⟩⟩)
    (h : Mid9 a b ba bn B g ob (kdr 0 nd) ms 4 (.slice At nt ct) (.slice Aa na ca) F [] w0 wr) : nt = 5 ∧ na = F.length ∧ na ≤ ca ∧ ca ≤ maxLen ∧ nt ≤ ct ∧ ct ≤ maxLen ∧ Pk9 a b ba bn B g ob 4000 12000 (allm ms 4) I (fun _ => False) At [(Aa, F.map (.int .i64))] w0 wr := by
  obtain ⟨ts, Z, hG, hb, hz, h1, h2, h3⟩ := h.ex
  obtain ⟨d1, d2, d3, d4⟩ := row_dims9 h1
  obtain ⟨A1, c1, e1, f1, f2, f3, hG1⟩ := Grp.seal (X := fun q => (Value.slice Aa na ca).ownBlock = some q) hG h1 (Nat.le_refl _) (fun k hk => Or.inl hk) (fun k hk => Or.inr hk) (fun k hk => h3 k hk)
  obtain ⟨A2, c2, e2, g1, g2, g3, hG2⟩ := Grp.seal (X := fun _ => False) hG1 h2 (Nat.le_refl _) (fun k hk => hk) (fun k hk => hk.elim) (fun k hk e => e)
  simp only [Value.slice.injEq] at e1 e2
  obtain ⟨rfl, rfl, rfl⟩ := e1
  obtain ⟨rfl, rfl, rfl⟩ := e2
  have hl : ts.length = 5 := by have := d2; simp [ptrs] at this; omega
  refine ⟨rfl, rfl, g2, g3, f2, f3, _, _, ⟨[], [], [], [], [], []⟩, ts, _, hG2, Many9.zero ms hm nd 4000 (by omega) _, hI, ?_, hl, hb.mono (fun z hz => List.mem_cons_of_mem _ (List.mem_cons_of_mem _ hz)), List.mem_cons_of_mem _ List.mem_cons_self, fun z hz => ?_, fun j hj => hj.elim⟩
  · simp [kms]
  · obtain rfl := List.mem_singleton.1 hz
    exact List.mem_cons_self
/-- A ticket dies, however others are under way. -/
theorem Many9.slay {A : Ab9} {ks : List K9} {τ : St R9} (h : Many9 N all A ks τ) {T : Int} (h0 : 0 ≤ T) (h1 : T < 20) {σ' : St R9} (hx : σ'.xs = τ.xs.set (22 + T).toNat 1) (hr : σ'.r = τ.r) : Many9 N all A ks σ' := by
  have hl := h.len
  have e0 : ∀ n : Nat, n < 22 → σ'.xs.getD n 0 = τ.xs.getD n 0 := fun n hn => by rw [hx]; exact getD_set _ _ _ _ (by omega)
  have e1 : ∀ n : Nat, τ.xs.getD n 0 = 1 → σ'.xs.getD n 0 = 1 := fun n hn => by
    rw [hx]
    by_cases hnt : (22 + T).toNat = n
    · rw [← hnt]
      exact getD_set_self _ _ _ (by omega)
    · rw [getD_set _ _ _ _ hnt]
      exact hn
  refine ⟨by rw [hx]; simpa using hl, ?_, ?_, by rw [hr]; exact h.own, by rw [hr]; exact h.ended, h.perm, h.few, h.once, h.rng, fun k hk => ?_, h.pu, fun q k2 h2 => ?_, fun i hi => e1 _ (h.dd i hi), by rw [e0 0 (by omega)]; exact h.c0, by rw [e0 1 (by omega)]; exact h.c1⟩
  · rw [e0 0 (by omega), hx]
    exact h.bx.set fun i hi => by have := h.bx.mem i hi; omega
  · rw [e0 1 (by omega), hx]
    exact h.fr.set fun i hi => by have := h.fr.mem i hi; omega
  · have hd := h.dr k hk
    rw [hx]
    exact hd.set fun i hi => by have := hd.inr i hi; omega
  · have ho := h.ok q k2 h2
    have hh : ∀ i ∈ hold k2, 0 ≤ i ∧ i < 20 := fun i hi => h.inr (List.mem_append_right _ (mem_holds h2 hi))
    cases k2 with
    | putD d2 t2 l2 h3 => simp only [Okk9] at ho ⊢; rw [e0 0 (by omega)]; exact ho
    | putS d2 t2 l2 h3 => simp only [Okk9] at ho ⊢; rw [e0 0 (by omega)]; exact ho
    | putC d2 t2 l2 h3 =>
      have := hh t2 (by simp [hold])
      simp only [Okk9] at ho ⊢
      rw [e0 0 (by omega), e0 _ (by omega)]
      exact ho
    | putN d2 t2 l2 h3 =>
      simp only [Okk9] at ho ⊢
      rw [e0 0 (by omega)]
      exact ⟨ho.1, ho.2.1, ho.2.2.1, e1 _ ho.2.2.2⟩
    | putM d2 t2 l2 h3 x3 =>
      simp only [Okk9] at ho ⊢
      rw [e0 0 (by omega), e0 (ix h3 + 2).toNat (by omega)]
      exact ⟨ho.1, ho.2.1, ho.2.2.1, e1 _ ho.2.2.2.1, ho.2.2.2.2⟩
    | freL d2 t2 l2 i2 =>
      simp only [Okk9] at ho ⊢
      exact e1 _ ho
    | freS d2 t2 l2 i2 h3 =>
      simp only [Okk9] at ho ⊢
      rw [e0 1 (by omega)]
      exact ⟨e1 _ ho.1, ho.2⟩
    | freC d2 t2 l2 i2 h3 =>
      have := hh i2 (by simp [hold])
      simp only [Okk9] at ho ⊢
      rw [e0 1 (by omega), e0 (i2 + 2).toNat (by omega)]
      exact ⟨e1 _ ho.1, ho.2⟩
    | drC => exact ho
    | _ => trivial
theorem Pk9.kill {T : Int} (h : Pk9 a b ba bn B g ob N (n + 1) all I8 dn At zs w0 wr) (h0 : 0 ≤ T) (h1 : T < 20) :
    Calls Try.prog 23 #[.pointer (some ⟨a, 0, none⟩), .int .i64 (22 + T), .int .u64 1] wr fun e w2 => (∃ b, e = .returned (.bool b)) ∧ Hid (Pk9 a b ba bn B g ob N n all I8 dn At zs w0 w2) ∧ Seven a ba bn g w2 := by
  obtain ⟨ks, τ, A, ts, Z, hG, hM, hI, hr⟩ := h.ex
  have hl := hM.len
  refine (Grp.store_c hG (22 + T) 1 (by omega)).mono ?_
  rintro e w2 ⟨hb, hG2, _⟩
  have hP : Pk9 a b ba bn B g ob N n all I8 dn At zs w0 w2 := ⟨ks, τ.sto (22 + T) 1, A, ts, Z, hG2.out, by
    rw [sto_at τ (by omega) (by omega)]
    exact hM.slay h0 h1 rfl rfl, hI, hr⟩
  exact ⟨hb, hP, hP.seven⟩
theorem Pk9.dns (h : Pk9 a b ba bn B g ob N n all I dn At zs w0 wr) {dn' : Nat → Prop} (hd : ∀ j, dn' j → dn j) : Pk9 a b ba bn B g ob N n all I dn' At zs w0 wr := by
  obtain ⟨ks, τ, A, ts, Z, hG, hM, hI, h1, h2, h3, h4, h5, h6⟩ := h.ex
  exact ⟨ks, τ, A, ts, Z, hG, hM, hI, h1, h2, h3, h4, h5, fun j hj => h6 j (hd j hj)⟩
theorem i8_start {ms : List Nat} {nd : Nat} (h : nd ≤ 9) {A : Ab9} {τ : St R9} : I8 A (kms (kdr 0 nd) ms 4) τ := fun k hk => by
  obtain rfl : kdr 0 nd = k := by simpa [kms] using hk
  cases nd with
  | zero => simp [kdr, Nine.left]
  | succ nd => simp only [kdr, Nine.left]; omega
/-- One pick. -/
theorem Pk9.pick (K : Keep9 all I) (p : Int) (ct : Nat) (h : Pk9 a b ba bn B g ob (N + 1) (n + 2) all I (fun _ => False) At zs w0 wr) :
    ∃ q : Int, 0 ≤ q ∧ q < 4611686018427387904 ∧ Hid (Calls Try.prog 26 #[.pointer (some ⟨a, 0, none⟩)] wr fun e w' => e = .returned (.int .i64 q) ∧ wr = w') ∧
      Hid (∀ o, Calls Try.prog 17 #[.slice At 5 ct, .slice (some ⟨wr.heap.size, 0, none⟩) 1 1] (wr.alloc (.cells #[.int .i64 p] o)) fun e w2 => (∃ z, e = .returned (.int .i64 z)) ∧ Seven a ba bn g w2 ∧ ∃ q2 : Int, 0 ≤ q2 ∧ q2 ≤ q + 1 ∧
        Hid (Calls Try.prog 26 #[.pointer (some ⟨a, 0, none⟩)] w2 fun e w' => e = .returned (.int .i64 q2) ∧ w2 = w') ∧ Hid (Pk9 a b ba bn B g ob N n all I (fun _ => False) At zs w0 w2)) := by
  obtain ⟨ks, τ, A, ts, Z, hG, hM, hI, h1, h2, h3, h4, h5, h6⟩ := h.ex
  have har := hG.ar
  have hc0 : 0 ≤ τ.c := har.1.c0
  have hfu : τ.c + ((n + 2 : Nat) : Int) < 4611686018427387904 := har.2.2.2
  refine ⟨τ.c, hc0, by omega, hG.count_c, ?_⟩
  intro o
  have hma : Made wr (wr.alloc (.cells #[.int .i64 p] o)) := (Made.refl _).alloc (Nat.le_refl _) _
  have hG2 := hG.box hma (Nat.le_refl _) (heap_alloc_new wr (.cells #[.int .i64 p] o))
  refine (K.run_c [p] (m := N) (n := n) (N := N) hG2 hM hI (c1 := ct) (c2 := 1) (Lib.hid h2.symm) (Lib.hid rfl) (by omega) (List.mem_cons_of_mem _ h4) List.mem_cons_self).mono ?_
  rintro e w2 ⟨hz, A', ks', τ', hG3, hM', hI', hlen, hc, _, _⟩
  have hc2 : 0 ≤ τ'.c := hG3.out.ar.1.c0
  refine ⟨hz, Grp.seven hG3.out (List.mem_cons_of_mem _ h3.1), τ'.c, hc2, by simpa using hc, hG3.out.count_c, ?_⟩
  exact ⟨ks', τ', A', ts, _, hG3.out, hM', hI', hlen.trans h1, h2, h3.mono (fun z hz => List.mem_cons_of_mem _ hz), List.mem_cons_of_mem _ h4, fun z hz => List.mem_cons_of_mem _ (h5 z hz), fun j hj => hj.elim⟩
/-- Many picks. -/
theorem Pk9.run (K : Keep9 all I) (ps : List Int) {ct n2 c2 : Nat} {A2 : Option Addr} (h : Pk9 a b ba bn B g ob (N + ps.length) (n + 2 * ps.length) all I (fun _ => False) At zs w0 wr) (hp : ∀ (i : Nat) (v : Value), (ps.map (Value.int .i64))[i]? = some v → ∃ d : Addr, A2 = some d ∧ d.block < B ∧ w0.cell? (d.add i) = some v) (hn : Hid (n2 = ps.length)) :
    Calls Try.prog 17 #[.slice At 5 ct, .slice A2 n2 c2] wr fun e w2 => (∃ z, e = .returned (.int .i64 z)) ∧ Hid (Pk9 a b ba bn B g ob N n all I (fun _ => False) At zs w0 w2) := by
  obtain ⟨ks, τ, A, ts, Z, hG, hM, hI, h1, h2, h3, h4, h5, h6⟩ := h.ex
  have hG2 := hG.given (A := A2) (vs := ps.map (Value.int .i64)) hp
  refine (K.run_c ps (m := N) (n := n) (N := N) hG2 hM hI (c1 := ct) (c2 := c2) (Lib.hid h2.symm) hn (by omega) (List.mem_cons_of_mem _ h4) List.mem_cons_self).mono ?_
  rintro e w2 ⟨hz, A', ks', τ', hG3, hM', hI', hlen, hc, _, _⟩
  exact ⟨hz, ks', τ', A', ts, _, hG3.out, hM', hI', hlen.trans h1, h2, h3.mono (fun z hz => List.mem_cons_of_mem _ hz), List.mem_cons_of_mem _ h4, fun z hz => List.mem_cons_of_mem _ (h5 z hz), fun j hj => hj.elim⟩
/-- A task is finished. -/
theorem Pk9.fin (K : Keep9 all I) (h8 : ∀ A ks τ, I A ks τ → I8 A ks τ) {p most : Nat} (hp : p < 5) (hm : 250 ≤ most) (h : Pk9 a b ba bn B g ob (N + 250) (n + 2 * 250) all I dn At zs w0 wr) :
    ∃ d tb, At = some d ∧ wr.cell? (d.add p) = some (.pointer (some ⟨tb, 0, none⟩)) ∧ Hid (Calls Try.prog 18 #[.pointer (some ⟨tb, 0, none⟩), .int .i64 (most : Int)] wr fun e w2 => e = .returned (.bool true) ∧ Hid (Pk9 a b ba bn B g ob N n all I (fun j => dn j ∨ j = p) At zs w0 w2)) := by
  obtain ⟨ks, τ, A, ts, Z, hG, hM, hI, h1, h2, h3, h4, h5, h6⟩ := h.ex
  obtain ⟨tb, htb⟩ : ∃ tb, ts[p]? = some tb := ⟨_, List.getElem?_eq_getElem (by omega)⟩
  obtain ⟨k, hk⟩ : ∃ k, ks[p]? = some k := ⟨_, List.getElem?_eq_getElem (by omega)⟩
  obtain ⟨d, hd, hc⟩ := hG.lie h4 p (.pointer (some ⟨tb, 0, none⟩)) (by simp [ptrs, htb])
  have hl : left k ≤ 8 := by
    cases p with
    | zero => exact h8 _ _ _ hI k hk
    | succ p => rw [(hM.pu p k hk).left]; omega
  refine ⟨d, tb, hd, hc, ?_⟩
  refine (K.finish_c (m := N) (n := n) (N := N) hG hM hI htb hk hl hm).mono ?_
  rintro e w2 ⟨rfl, A', τ', hG2, hM', hI', _⟩
  refine ⟨rfl, _, τ', A', ts, Z, hG2.out, hM', hI', by simpa using h1, h2, h3, h4, h5, fun j hj => ?_⟩
  by_cases hjp : p = j
  · subst hjp
    exact List.getElem?_set_self (by omega)
  · rw [List.getElem?_set_ne hjp]
    rcases hj with hj | hj
    · exact h6 j hj
    · exact absurd hj.symm hjp
/-- All have ended. -/
structure Nd9 (a b ba bn B g ob : Nat) (bl fl : List Int) (I : Ab9 → Prop) (all got ends : List Int) (zs : List (Option Addr × List Value)) (w0 wr : World) : Prop where
  ex : ∃ ks τ ts Z, Grp (S9 a b (20 : Nat) none) B 0 0 (Nine.mk a b (20 : Nat) none ks τ) ts [ob] [] Z (fun _ => False) w0 wr ∧ τ.xs.length = 42 ∧ Chn 20 τ.xs (ix (τ.xs.getD 0 0)) bl ∧ Chn 20 τ.xs (ix (τ.xs.getD 1 0)) fl ∧ τ.r.own = [(got, ends)] ∧ (∀ i ∈ fl, τ.xs.getD (22 + i).toNat 0 = 1) ∧ Bx9 a ba bn g Z ∧ (∀ z ∈ zs, z ∈ Z)
  perm : (bl ++ fl ++ got).Perm all
  once : all.Nodup
  rng : ∀ i ∈ all, 0 ≤ i ∧ i < 20
  inv : ∃ A : Ab9, A.got = got ∧ A.ends = ends ∧ A.rl = [] ∧ I A
theorem holds_done {ks : List K9} (h : ∀ k ∈ ks, k = .done) : holds ks = [] := by
  unfold holds
  rw [List.flatten_eq_nil_iff]
  intro l hl
  obtain ⟨k, hk, rfl⟩ := List.mem_map.1 hl
  rw [h k hk]
  rfl
theorem Pk9.ends {J : Ab9 → Prop} (hJ : ∀ A ks τ, I A ks τ → J A) (h : Pk9 a b ba bn B g ob N n all I dn At zs w0 wr) (hd : ∀ j, j < 5 → dn j) : ∃ bl fl got ends, Nd9 a b ba bn B g ob bl fl J all got ends zs w0 wr := by
  obtain ⟨ks, τ, A, ts, Z, hG, hM, hI, h1, h2, h3, h4, h5, h6⟩ := h.ex
  have hall : ∀ k ∈ ks, k = .done := fun k hk => by
    obtain ⟨i, hi, rfl⟩ := List.getElem_of_mem hk
    have := h6 i (hd i (by omega))
    rw [List.getElem?_eq_getElem hi] at this
    exact Option.some.inj this
  have hrl : A.rl = [] := hM.dr _ (h6 0 (hd 0 (by omega)))
  have hp := hM.perm
  rw [holds_done hall, Ab9.all, hrl] at hp
  simp only [List.append_nil] at hp
  exact ⟨A.bl, A.fl, A.got, A.ends, ⟨ks, τ, ts, Z, hG.lower (Nat.zero_le _) (Nat.zero_le _), hM.len, hM.bx, hM.fr, hM.own, hM.dd, h3, h5⟩, hp, hM.once, hM.rng, A, rfl, rfl, hrl, hJ A ks τ hI⟩
end
section
variable {a b ba bn B g ob : Nat} {bl fl all got ends : List Int} {I : Ab9 → Prop} {zs : List (Option Addr × List Value)} {w0 wr w' : World}
theorem Nd9.later (h : Nd9 a b ba bn B g ob bl fl I all got ends zs w0 wr) (hm : Made wr w') : Nd9 a b ba bn B g ob bl fl I all got ends zs w0 w' := by
  obtain ⟨ks, τ, ts, Z, hG, hr⟩ := h.ex
  exact ⟨⟨ks, τ, ts, Z, hG.later hm, hr⟩, h.perm, h.once, h.rng, h.inv⟩
theorem Nd9.seven (h : Nd9 a b ba bn B g ob bl fl I all got ends zs w0 wr) : Seven a ba bn g wr := by
  obtain ⟨ks, τ, ts, Z, hG, h1, h2, h3, h4, h5, h6, _⟩ := h.ex
  exact Grp.seven hG h6.1
theorem Nd9.bel (h : Nd9 a b ba bn B g ob bl fl I all got ends zs w0 wr) : Below B w0 wr := by
  obtain ⟨ks, τ, ts, Z, hG, _⟩ := h.ex
  exact hG.bel
theorem Nd9.few (h : Nd9 a b ba bn B g ob bl fl I all got ends zs w0 wr) : bl.length + fl.length + got.length = all.length ∧ all.length ≤ 20 := by
  have h1 := h.perm.length_eq
  have h2 := few_of 20 _ h.once h.rng
  simp only [List.length_append] at h1
  omega
theorem Nd9.tk (h : Nd9 a b ba bn B g ob bl fl I all got ends zs w0 wr) : ∃ A c A' c', wr.cell? ⟨ob, 0, none⟩ = some (.slice A got.length c) ∧ wr.cell? ⟨ob, 1, none⟩ = some (.slice A' ends.length c') ∧ Reads wr A got.length (got.map (.int .i64)) ∧ Reads wr A' ends.length (ends.map (.int .i64)) := by
  obtain ⟨ks, τ, ts, Z, hG, h1, h2, h3, h4, h5, h6, _⟩ := h.ex
  obtain ⟨A, c, A', c', q1, q2, q3, q4⟩ := Grp.got9 (o := 0) (g := ob) (y := (got, ends)) hG rfl (by rw [h4]; rfl)
  exact ⟨A, c, A', c', q1, q2, reads_own q3, reads_own q4⟩
/-- A slice that the law knows. -/
theorem Nd9.reads {A : Option Addr} {vs : List Value} (h : Nd9 a b ba bn B g ob bl fl I all got ends zs w0 wr) (hz : (A, vs) ∈ zs) : Reads wr A vs.length vs := by
  obtain ⟨ks, τ, ts, Z, hG, h1, h2, h3, h4, h5, h6, h7⟩ := h.ex
  exact reads_of9 hG (h7 _ hz)
theorem Nd9.box_c (h : Nd9 a b ba bn B g ob bl fl I all got ends zs w0 wr) : Calls Try.prog 24 #[.agg (bxf a ba bn)] wr fun e w' => ∃ A c, e = .returned (.slice A bl.length c) ∧ w'.ownsRow wr.heap.size 3 1 (.slice A bl.length c) bl.length (bl.map (.int .i64)) ∧ Made wr w' := by
  have hf := h.few
  obtain ⟨ks, τ, ts, Z, hG, h1, h2, h3, h4, h5, h6, _⟩ := h.ex
  refine (BoxList_c (nn := 20) (s := bl) hG.ar.1 hG.ar.2.1 h2 h1 (by omega) (by omega)).mono ?_
  rintro e w2 ⟨A2, c2, rfl, hrow, hm⟩
  exact ⟨A2, c2, rfl, hrow, hm⟩
theorem Nd9.free_c (h : Nd9 a b ba bn B g ob bl fl I all got ends zs w0 wr) : Calls Try.prog 25 #[.agg #[.pointer (some ⟨a, 0, none⟩), .int .i64 1, .func (.func 40) #[] #[]]] wr fun e w' => ∃ A c, e = .returned (.slice A fl.length c) ∧ Reads w' A fl.length (fl.map (.int .i64)) ∧ Made wr w' := by
  have hf := h.few
  obtain ⟨ks, τ, ts, Z, hG, h1, h2, h3, h4, h5, h6, _⟩ := h.ex
  refine (List_c (nn := 20) (qd := 1) (s := fl) hG.ar.1 hG.ar.2.1 (by omega) h3 h1 (by omega) (by omega)).mono ?_
  rintro e w2 ⟨A2, c2, rfl, hrow, hm⟩
  exact ⟨A2, c2, rfl, reads_own hrow, hm⟩
theorem Nd9.all_c (h : Nd9 a b ba bn B g ob bl fl I all got ends zs w0 wr) {i : Int} (hi : i ∈ fl) : 0 ≤ i ∧ i < 20 ∧ Hid (Calls Try.prog 27 #[.pointer (some ⟨a, 0, none⟩)] wr fun e w' => e = .returned (.slice (some ⟨wr.heap.size, 0, none⟩) 42 42) ∧ w'.cell? ⟨wr.heap.size, 22 + i.toNat, none⟩ = some (.int .u64 1) ∧ Made wr w') := by
  have hr := h.rng i (h.perm.mem_iff.1 (by simp [hi]))
  obtain ⟨ks, τ, ts, Z, hG, h1, h2, h3, h4, h5, h6, _⟩ := h.ex
  refine ⟨hr.1, hr.2, ?_⟩
  have hall := All_c hG.ar.1 hG.ar.2.2.1
  have h1' : (Nine.mk a b (20 : Nat) none ks τ).σ.xs.length = 42 := h1
  rw [h1'] at hall
  refine hall.mono ?_
  rintro e w2 ⟨rfl, hrow, hm⟩
  refine ⟨rfl, ?_, hm⟩
  rw [cell_of_row _ _ _ _ _ _ hrow]
  have hd := h5 i hi
  have hlt : 22 + i.toNat < τ.xs.length := by omega
  rw [show (22 + i).toNat = 22 + i.toNat by omega, List.getD_eq_getElem?_getD, List.getElem?_eq_getElem hlt] at hd
  have hd' : τ.xs[22 + i.toNat] = 1 := hd
  rw [row_at' (xs := τ.xs) hlt, hd']
end
end Go.Proofs.Ytndpkonihcebeaa.Kod.Nine

/- Appends within a region that draws its order, for layer 9's laws. -/
namespace Go.Proofs.Ytndpkonihcebeaa
open Go Go.RowKit
set_option linter.unusedVariables false
section
variable {P : Program} {w : World}
/-- An append, nil source let in, as a step of a region that draws its order. -/
theorem step_app {ops : Array Oper} {o : Oper} {a : Act} {K : Act → World → Prop} {Q : Exit → Act → World → Prop} {E : Prop} (hgd : o.guard = none) (s x : Operand) (t : TypeId)
    (ho : o.op = .call { callee := .builtin .append, args := #[s, x], argTypes := #[t, t] })
    (base : Nat) (e : TypeId) (z : Value) (bytes : Nat) (hE : Elem P t e z bytes) (v : Value) (n : Nat) (xs : List Value) (hs : a.eval s = v) (hown : w.ownsRow base e 1 v n xs)
    (A : Option Addr) (m c : Nat) (news : List Value) (hx : a.eval x = .slice A m c) (hr : Reads w A m news) (h1 : ∀ u ∈ news, u.oneCell' = true) (h63 : n + m ≤ maxLen) (hbytes : (n + m) * bytes ≤ 140737488355328) (hbase : base ≤ w.heap.size)
    (h : ∀ A' c' w', o.type = t → w'.ownsRow base e 1 (.slice A' (n + m) c') (n + m) (xs ++ news) → w.grownBy w' v.ownBlock → ((Value.slice A' (n + m) c').ownBlock = v.ownBlock ∨ (Value.slice A' (n + m) c').ownBlock = some w.heap.size) → K (a.put o.dst (.slice A' (n + m) c')) w') (hty : o.type = t) :
    if Region.wanted o (yielded ops a.tmps) = true then Oper.wp P o a w K Q else E := by
  have hw : Region.wanted o (yielded ops a.tmps) = true := by simp [Region.wanted, hgd]
  rw [if_pos hw]
  obtain ⟨A', c', w', hrun, h2, h3, h4⟩ := run_app (P := P) w base t o.type e z bytes hE v n xs hown A m c news hr h1 h63 hbytes hbase
  unfold Oper.wp execOp
  simp only [ho, resolve, invoke, builtin, Sem.run_bind, Sem.run_pure, Result.andThen_ok, List.map_toArray, List.map_cons, List.map_nil, hs, hx, hrun]
  exact h A' c' w' hty h2 h3 h4
end
theorem own_empty {w' : World} {q B : Nat} (h : w'.heap[q]? = some (.cells #[] 3 (0, 0))) (hB : B ≤ q) : w'.ownsRow B 3 1 (.slice (some ⟨q, 0, none⟩) 0 0) 0 [] :=
  ⟨rfl, Or.inr ⟨q, 0, #[], rfl, hB, h, Nat.le_refl _, by unfold maxLen; omega, rfl, rfl⟩⟩
theorem made_of {wr X : World} {P : Prop} (h : Hid (Made wr X) ∧ P) : Made wr X := h.1.out
theorem made_al {wr X : World} {o : Obj} {P : Prop} (h : Hid (Made wr X) ∧ P) : Made wr (X.alloc o) := h.1.out.alloc h.1.out.size _
theorem made_grown {wr X w5 : World} {r : Option Nat} (h : Made wr X) (hg : X.grownBy w5 r) (hr : ∀ j, r = some j → wr.heap.size ≤ j) : Made wr w5 := h.grown hg h.size hr
theorem grown_new {wr X w5 : World} {q n c : Nat} (h : Made wr X) (hg : X.grownBy w5 (Value.slice (some ⟨q, 0, none⟩) n c).ownBlock) (hq : wr.heap.size ≤ q) : Made wr w5 := made_grown h hg fun j ej => by
  obtain rfl : q = j := by simpa [Value.ownBlock] using ej
  exact hq
theorem own_ne {k q n c : Nat} (h : k ≠ q) : some k ≠ (Value.slice (some ⟨q, 0, none⟩) n c).ownBlock := fun e => by
  have h2 : k = q := by simpa [Value.ownBlock] using e
  exact h h2
theorem zero_row {w' : World} {B n c : Nat} {A : Option Addr} {vs : List Value} (h : w'.ownsRow B 3 1 (.slice A (0 + n) c) (0 + n) ([] ++ vs)) : w'.ownsRow B 3 1 (.slice A n c) n vs := by
  rw [Nat.zero_add, List.nil_append] at h
  exact h
theorem row_keep {w w' : World} {B n : Nat} {v : Value} {vs : List Value} (h : w.ownsRow B 3 1 v n vs) (hs : ∀ k : Nat, v.ownBlock = some k → w'.heap[k]? = w.heap[k]?) : w'.ownsRow B 3 1 v n vs := by
  obtain ⟨h0, h1⟩ := h
  refine ⟨h0, ?_⟩
  rcases h1 with h1 | ⟨g, cap, cur, rfl, hb, hg, hr⟩
  · exact Or.inl h1
  · exact Or.inr ⟨g, cap, cur, rfl, hb, (hs g rfl).trans hg, hr⟩
theorem row_made {w w' : World} {B n : Nat} {v : Value} {vs : List Value} (h : w.ownsRow B 3 1 v n vs) (hm : Made w w') : w'.ownsRow B 3 1 v n vs := row_keep h fun k hk => hm.block k (h.lt k hk).2
end Go.Proofs.Ytndpkonihcebeaa

/- What layer 9's laws over many tasks are handed. -/
namespace Go.Proofs.Ytndpkonihcebeaa.Kod.Nine
open Go.RowKit Go.Proofs.Ytndpkonihcebeaa Go.Proofs.Ytndpkonihcebeaa.Cell Go.Proofs.Ytndpkonihcebeaa.Wd
set_option linter.unusedVariables false
set_option linter.unusedSimpArgs false

theorem elem_task9 : Elem Try.prog 42 37 (.pointer none) 8 := ⟨Try.underlying42, by kernel_rfl, rfl⟩
theorem ptr_one9 (x : Value) (h : x.oneCell' = true) : ∀ u ∈ [x], u.oneCell' = true := fun u hu => by
  obtain rfl := List.mem_singleton.1 hu
  exact h
/-- Four numbers. -/
theorem four_idx {N0 N1 N2 N3 i : Nat} (h0 : N0 < 256) (h1 : N1 < 256) (h2 : N2 < 256) (h3 : N3 < 256) (hi : i < 4) : ∃ Ni : Nat, (#[Value.int .u8 (N0 : Int), .int .u8 (N1 : Int), .int .u8 (N2 : Int), .int .u8 (N3 : Int)] : Array Value)[i]? = some (.int .u8 (Ni : Int)) ∧ Ni < 256 ∧ (Ni : Int) % 6 = (([N0 % 6, N1 % 6, N2 % 6, N3 % 6].getD i 0 : Nat) : Int) := by
  obtain rfl | rfl | rfl | rfl : i = 0 ∨ i = 1 ∨ i = 2 ∨ i = 3 := by omega
  · exact ⟨N0, rfl, h0, by simp⟩
  · exact ⟨N1, rfl, h1, by simp⟩
  · exact ⟨N2, rfl, h2, by simp⟩
  · exact ⟨N3, rfl, h3, by simp⟩
theorem four_le {N0 N1 N2 N3 : Nat} (j : Nat) : [N0 % 6, N1 % 6, N2 % 6, N3 % 6].getD j 0 ≤ 5 := by
  by_cases hj : j < 4
  · obtain rfl | rfl | rfl | rfl : j = 0 ∨ j = 1 ∨ j = 2 ∨ j = 3 := by omega
    all_goals simp; omega
  · rw [List.getD_eq_getElem?_getD, List.getElem?_eq_none (by simp; omega)]
    simp
theorem slk_rdv {w : World} {v : Value} {xs : List Int} (h : SlK .i64 w v xs) : ∃ A c, v = .slice A xs.length c ∧ xs.length ≤ c ∧ c ≤ maxLen ∧ RdV w w.heap.size A (xs.map (Value.int .i64)) := by
  rcases h with ⟨rfl, rfl⟩ | ⟨d, cap, rfl, h1, h2, h3⟩
  · exact ⟨none, 0, rfl, Nat.le_refl _, Nat.zero_le _, RdV.nil⟩
  · refine ⟨some d, cap, rfl, h1, h2, fun i v hi => ?_⟩
    obtain ⟨hj, rfl⟩ := List.getElem?_eq_some_iff.1 hi
    have hj' : i < xs.length := by simpa using hj
    have hc := h3 i hj'
    refine ⟨d, rfl, ?_, by rw [hc]; simp⟩
    have := Go.block_lt_of_cell hc
    rw [addr_block] at this
    exact this
theorem u8_of9' {a : Int} (h : (Lit.int .u8 a).wf = true) : ∃ n : Nat, a = (n : Int) ∧ n < 256 := by
  simp [Lit.wf, IntKind.min, IntKind.max, IntKind.signed, IntKind.bits] at h
  exact ⟨a.toNat, by omega, by omega⟩
theorem i64_of9 {l : List Int} (h : ∀ z ∈ l, (Lit.int .i64 z).wf = true) : ∀ z ∈ l, -9223372036854775808 ≤ z ∧ z ≤ 9223372036854775807 := fun z hz => by
  have := h z hz
  simp [Lit.wf, IntKind.min, IntKind.max, IntKind.signed, IntKind.bits] at this
  omega
theorem four9 (l : List Int) (h : l.length = 4) : ∃ a b c d, l = [a, b, c, d] := by
  match l, h with
  | [a, b, c, d], _ => exact ⟨a, b, c, d, rfl⟩
end Go.Proofs.Ytndpkonihcebeaa.Kod.Nine
