/- Layer 8's laws: tasks in whatever state: a step of one may always be done, and brings it nearer to its end. -/
import Derived.Test.YthllplocbciepaaSolo8b
namespace Go.Proofs.Ythllplocbciepaa.Kod.Eight
open Go.RowKit Go.Proofs.Ythllplocbciepaa Go.Proofs.Ythllplocbciepaa.Cell Go.Proofs.Ythllplocbciepaa.Wd
set_option linter.unusedVariables false
set_option linter.unusedSimpArgs false
variable {a b : Nat} {gb : Nat → Nat}

/-- A task's state goes with what its worker has. -/
def Tk (j : Nat) (x : W8) : K8 → Prop
  | .done => True
  | .popL j' _ => j' = j
  | .popN j' _ h => j' = j ∧ 0 ≤ ix h
  | .popC j' _ h _ => j' = j ∧ 0 ≤ ix h
  | .pshL j' _ i => j' = j ∧ x.hands.getLast? = some i
  | .pshS j' _ i _ => j' = j ∧ x.hands.getLast? = some i
  | .pshC j' _ i _ => j' = j ∧ x.hands.getLast? = some i
/-- How many acts are not through. -/
def acts : K8 → Nat
  | .done => 0
  | .popL _ l => l.length + 1
  | .popN _ l _ => l.length + 1
  | .popC _ l _ _ => l.length + 1
  | .pshL _ l _ => l.length + 1
  | .pshS _ l _ _ => l.length + 1
  | .pshC _ l _ _ => l.length + 1
/-- Within how many steps a task that alone is picked is through. -/
def cost (xs : List Int) : K8 → Nat
  | .done => 0
  | .popL _ l => 3 + 3 * l.length
  | .popN _ l h => (if xs.getD 0 0 = h then 2 else 5) + 3 * l.length
  | .popC _ l h _ => (if xs.getD 0 0 = h then 1 else 4) + 3 * l.length
  | .pshL _ l _ => 3 + 3 * l.length
  | .pshS _ l _ h => (if xs.getD 0 0 = h then 2 else 5) + 3 * l.length
  | .pshC _ l _ h => (if xs.getD 0 0 = h then 1 else 4) + 3 * l.length
theorem cost_acts (xs : List Int) (k : K8) : cost xs k ≤ 2 + 3 * acts k := by
  cases k <;> simp only [cost, acts] <;> (try split) <;> omega
/-- What a worker that notes nothing has. -/
structure Fine (x : W8) (N : Nat) : Prop where
  rng : ∀ i ∈ x.hands, 0 ≤ i ∧ i < 4294967295
  got : x.got = none
  few : x.hands.length + N ≤ 1000
theorem Fine.room {x : W8} {N : Nat} (h : Fine x N) : room x := ⟨by have := h.few; omega, fun g hg => by rw [h.got] at hg; simp at hg⟩
/-- An act, or nothing, is to be begun. -/
def Fr : K8 → Prop
  | .done => True
  | .popL _ _ => True
  | .pshL _ _ _ => True
  | _ => False
theorem enter_any {j : Nat} {x : W8} : ∀ (l : List Bool) {σ : St (List W8)}, σ.r[j]? = some x → Fine x l.length → ∃ k' x', enter j l σ = some (k', { σ with r := σ.r.set j x' }) ∧ Tk j x' k' ∧ Fine x' (acts k') ∧ x'.hands = x.hands ∧ x'.wrong = x.wrong ∧ (∀ xs, cost xs k' ≤ 3 * l.length) ∧ acts k' ≤ l.length ∧ Fr k'
  | [], σ, hx, hf => ⟨.done, x, by
      have e : σ.r.set j x = σ.r := set_id hx
      rw [e]
      rfl, trivial, ⟨hf.rng, hf.got, by have := hf.few; simp only [acts]; omega⟩, rfl, rfl, fun xs => by simp only [cost]; omega, by simp [acts], trivial⟩
  | true :: l, σ, hx, hf => ⟨.popL j l, { x with busy := true, bare := false }, by
      unfold enter
      rw [hx]
      rfl, rfl, ⟨hf.rng, hf.got, by have := hf.few; simpa [acts] using this⟩, rfl, rfl, fun xs => by simp only [cost, List.length_cons]; omega, by simp [acts], trivial⟩
  | false :: l, σ, hx, hf => by
      cases hl : x.hands.getLast? with
      | none =>
        obtain ⟨k', x', h1, h2, h3, h4, h5, h6, h7, h8⟩ := enter_any l hx ⟨hf.rng, hf.got, by have := hf.few; simp only [List.length_cons] at this; omega⟩
        refine ⟨k', x', ?_, h2, h3, h4, h5, fun xs => by have := h6 xs; simp only [List.length_cons]; omega, by simp only [List.length_cons]; omega, h8⟩
        rw [← h1]
        conv => lhs; unfold enter
        rw [hx]
        simp only [hl]
      | some i =>
        refine ⟨.pshL j l i, x, ?_, ⟨rfl, hl⟩, ⟨hf.rng, hf.got, by have := hf.few; simpa [acts] using this⟩, rfl, rfl, fun xs => by simp only [cost, List.length_cons]; omega, by simp [acts], trivial⟩
        have e : σ.r.set j x = σ.r := set_id hx
        rw [e]
        unfold enter
        rw [hx]
        simp only [hl]
/-- What a step of a task comes to. -/
def Goes (j : Nat) (k : K8) (σ : St (List W8)) (x : W8) : Prop :=
  ∃ k' σ' x', next8 k σ = some (k', σ') ∧ σ'.r = σ.r.set j x' ∧ Tk j x' k' ∧ Fine x' (acts k') ∧ σ'.xs.length = σ.xs.length ∧ σ'.steps = σ.steps ∧ cost σ'.xs k' + 1 ≤ cost σ.xs k ∧ acts k' ≤ acts k ∧ (0 ≤ σ.xs.getD 0 0 → ct (σ'.xs.getD 0 0) ≤ ct (σ.xs.getD 0 0) + 1 ∧ 0 ≤ σ'.xs.getD 0 0)
theorem ld_cost (xs : List Int) (i : Int) : ∀ (τ : St (List W8)), (τ.ld i).2.xs = τ.xs ∧ (τ.ld i).2.r = τ.r ∧ (τ.ld i).2.steps = τ.steps := by
  intro τ
  unfold St.ld
  split <;> exact ⟨rfl, rfl, rfl⟩
theorem cas_miss {τ : St (List W8)} {v old : Int} (h : 0 < τ.xs.length) (hn : τ.xs.getD 0 0 ≠ old) : τ.cas 0 old v = (false, { τ with c := τ.c + 1 }) := by
  unfold St.cas
  rw [dif_pos ⟨by omega, by simpa using h⟩]
  have : τ.xs[(0 : Int).toNat]'(by simpa using h) = τ.xs.getD 0 0 := by
    rw [List.getD_eq_getElem?_getD, List.getElem?_eq_getElem h]
    rfl
  rw [this, if_neg hn]
theorem told_any {x : W8} {N : Nat} {i : Int} {ok : Bool} (h : Fine x (N + 1)) (hi : ok = true → 0 ≤ i ∧ i < 4294967295) : Fine (told x i ok) N := by
  cases ok with
  | false => exact ⟨h.rng, by simp [told, h.got], by have := h.few; simp [told]; omega⟩
  | true =>
    refine ⟨fun y hy => ?_, by simp [told, h.got], by have := h.few; simp [told]; omega⟩
    simp [told] at hy
    rcases hy with hy | rfl
    · exact h.rng y hy
    · exact hi rfl
theorem popped_any {j : Nat} {x : W8} {l : List Bool} {i : Int} {ok : Bool} {σ : St (List W8)} (hx : σ.r[j]? = some x) (hf : Fine x (l.length + 1)) (hi : ok = true → 0 ≤ i ∧ i < 4294967295) :
    ∃ k' x', popped j l i ok σ = some (k', { σ with r := σ.r.set j x' }) ∧ Tk j x' k' ∧ Fine x' (acts k') ∧ x'.hands = (told x i ok).hands ∧ x'.wrong = (told x i ok).wrong ∧ (∀ xs, cost xs k' ≤ 3 * l.length) ∧ acts k' ≤ l.length ∧ Fr k' := by
  rw [popped_eq hx hf.room]
  have hj : j < σ.r.length := (List.getElem?_eq_some_iff.1 hx).1
  have hx' : (setw σ j (told x i ok)).r[j]? = some (told x i ok) := by simp [setw, hj]
  obtain ⟨k', x', h1, h2, h3, h4, h5, h6, h7, h8⟩ := enter_any l hx' (told_any hf hi)
  refine ⟨k', x', ?_, h2, h3, h4, h5, h6, h7, h8⟩
  rw [h1]
  simp [setw]
theorem pushed_any {j : Nat} {x : W8} {l : List Bool} {i : Int} {σ : St (List W8)} (hx : σ.r[j]? = some x) (hf : Fine x (l.length + 1)) (hl : x.hands.getLast? = some i) :
    ∃ k' x', pushed j l σ = some (k', { σ with r := σ.r.set j x' }) ∧ Tk j x' k' ∧ Fine x' (acts k') ∧ x'.hands = x.hands.dropLast ∧ x'.wrong = x.wrong ∧ (∀ xs, cost xs k' ≤ 3 * l.length) ∧ acts k' ≤ l.length ∧ Fr k' := by
  have hne : x.hands ≠ [] := fun e => by rw [e] at hl; simp at hl
  rw [pushed_eq hx hne]
  have hj : j < σ.r.length := (List.getElem?_eq_some_iff.1 hx).1
  have hx' : (setw σ j { x with hands := x.hands.dropLast }).r[j]? = some { x with hands := x.hands.dropLast } := by simp [setw, hj]
  obtain ⟨k', x', h1, h2, h3, h4, h5, h6, h7, h8⟩ := enter_any l hx' ⟨fun y hy => hf.rng y (List.dropLast_subset _ hy), hf.got, by have := hf.few; simp; omega⟩
  refine ⟨k', x', ?_, h2, h3, h4, h5, h6, h7, h8⟩
  rw [h1]
  simp [setw]
theorem ct_turn_le {old : Int} (first : Int) (h0 : 0 ≤ old) : ct (turnTo old first) ≤ ct old + 1 ∧ 0 ≤ turnTo old first := by
  unfold turnTo
  split
  · unfold ct
    omega
  · unfold ct
    omega
theorem goes {j : Nat} {k : K8} {σ : St (List W8)} {x : W8} (hk : (S8 a b gb).nil k = false) (hx : σ.r[j]? = some x) (ht : Tk j x k) (hf : Fine x (acts k)) (hl : 0 < σ.xs.length) : Goes j k σ x := by
  have keep : ∀ {ys : List Int}, ys = σ.xs → (0 ≤ σ.xs.getD 0 0 → ct (ys.getD 0 0) ≤ ct (σ.xs.getD 0 0) + 1 ∧ 0 ≤ ys.getD 0 0) := fun e h => by rw [e]; exact ⟨by omega, h⟩
  have same : ∀ {τ : St (List W8)}, τ.r = σ.r → τ.r = σ.r.set j x := fun h => by rw [h, set_id hx]
  cases k with
  | done => simp [S8] at hk
  | popL j' l =>
    obtain rfl : j' = j := ht
    obtain ⟨e1, e2, e3⟩ := ld_cost [] 0 σ
    by_cases hn : ix (σ.ld 0).1 < 0
    · have hx' : (σ.ld 0).2.r[j']? = some x := by rw [e2]; exact hx
      obtain ⟨k', x', h1, h2, h3, _, _, h6, h7, _⟩ := popped_any (i := -1) (ok := false) hx' hf (by simp)
      refine ⟨k', { (σ.ld 0).2 with r := (σ.ld 0).2.r.set j' x' }, x', ?_, by simp only [e2], h2, h3, by simp only [e1], e3, ?_, Nat.le_succ_of_le h7, keep e1⟩
      · show (if _ then _ else _) = _
        rw [if_pos hn]
        exact h1
      · have := h6 (σ.ld 0).2.xs
        simp only [cost] at this ⊢
        omega
    · refine ⟨.popN j' l (σ.ld 0).1, (σ.ld 0).2, x, ?_, same e2, ⟨rfl, by omega⟩, hf, by rw [e1], e3, ?_, Nat.le_refl _, keep e1⟩
      · show (if _ then _ else _) = _
        rw [if_neg hn]
      · have : (σ.ld 0).2.xs.getD 0 0 = (σ.ld 0).1 := by rw [e1, ld_at σ (by omega) (by omega)]; rfl
        simp only [cost, this]
        simp
        omega
  | popN j' l h =>
    obtain ⟨rfl, hi⟩ := ht
    obtain ⟨e1, e2, e3⟩ := ld_cost [] (lk1 (ix h)) σ
    refine ⟨.popC j' l h (σ.ld (lk1 (ix h))).1, (σ.ld (lk1 (ix h))).2, x, rfl, same e2, ⟨rfl, hi⟩, hf, by rw [e1], e3, ?_, Nat.le_refl _, keep e1⟩
    simp only [cost, e1]
    split <;> omega
  | popC j' l h y =>
    obtain ⟨rfl, hi⟩ := ht
    by_cases he : σ.xs.getD 0 0 = h
    · have hc := cas_at (v := turnTo h (nx y)) σ (i := 0) (old := h) (by omega) (by omega) he
      have hlo := ix_lo h
      obtain ⟨k', x', h1, h2, h3, _, _, h6, h7, _⟩ := popped_any (σ := (σ.cas 0 h (turnTo h (nx y))).2) (i := ix h) (ok := true) (by rw [hc]; exact hx) hf (fun _ => ⟨hi, by omega⟩)
      refine ⟨k', { (σ.cas 0 h (turnTo h (nx y))).2 with r := (σ.cas 0 h (turnTo h (nx y))).2.r.set j' x' }, x', ?_, by rw [hc], h2, h3, by rw [hc]; simp, by rw [hc], ?_, Nat.le_succ_of_le h7, fun h00 => by rw [hc]; show ct ((σ.xs.set 0 _).getD 0 0) ≤ _ ∧ 0 ≤ (σ.xs.set 0 _).getD 0 0; rw [getD_set_self _ _ _ hl, he]; rw [he] at h00; exact ct_turn_le _ h00⟩
      · show (if (σ.cas 0 h (turnTo h (nx y))).1 then _ else _) = _
        rw [if_pos (by rw [hc])]
        exact h1
      · refine Nat.le_trans (Nat.add_le_add_right (h6 _) 1) ?_
        simp only [cost]
        split <;> omega
    · have hc := cas_miss (v := turnTo h (nx y)) hl he
      refine ⟨.popL j' l, { σ with c := σ.c + 1 }, x, ?_, same rfl, rfl, hf, rfl, rfl, ?_, Nat.le_refl _, keep rfl⟩
      · show (if (σ.cas 0 h (turnTo h (nx y))).1 then _ else _) = _
        rw [hc]
        rfl
      · simp only [cost]
        rw [if_neg he]
        omega
  | pshL j' l i =>
    obtain ⟨rfl, hi⟩ := ht
    obtain ⟨e1, e2, e3⟩ := ld_cost [] 0 σ
    refine ⟨.pshS j' l i (σ.ld 0).1, (σ.ld 0).2, x, rfl, same e2, ⟨rfl, hi⟩, hf, by rw [e1], e3, ?_, Nat.le_refl _, keep e1⟩
    have : (σ.ld 0).2.xs.getD 0 0 = (σ.ld 0).1 := by rw [e1, ld_at σ (by omega) (by omega)]; rfl
    simp only [cost, this]
    simp
    omega
  | pshS j' l i h =>
    obtain ⟨rfl, hi⟩ := ht
    have hi0 := (hf.rng i (List.mem_of_getLast? hi)).1
    have hst : (σ.sto (lk1 i) (ix h + 1)).r = σ.r ∧ (σ.sto (lk1 i) (ix h + 1)).steps = σ.steps ∧ (σ.sto (lk1 i) (ix h + 1)).xs.length = σ.xs.length ∧ (σ.sto (lk1 i) (ix h + 1)).xs.getD 0 0 = σ.xs.getD 0 0 := by
      unfold St.sto
      split
      · refine ⟨rfl, rfl, by simp, ?_⟩
        exact getD_set _ _ _ _ (by unfold lk1; omega)
      · exact ⟨rfl, rfl, rfl, rfl⟩
    refine ⟨.pshC j' l i h, σ.sto (lk1 i) (ix h + 1), x, rfl, same hst.1, ⟨rfl, hi⟩, hf, hst.2.2.1, hst.2.1, ?_, Nat.le_refl _, fun h00 => by rw [hst.2.2.2]; exact ⟨by omega, h00⟩⟩
    simp only [cost, hst.2.2.2]
    split <;> omega
  | pshC j' l i h =>
    obtain ⟨rfl, hi⟩ := ht
    by_cases he : σ.xs.getD 0 0 = h
    · have hc := cas_at (v := turnTo h i) σ (i := 0) (old := h) (by omega) (by omega) he
      obtain ⟨k', x', h1, h2, h3, _, _, h6, h7, _⟩ := pushed_any (σ := (σ.cas 0 h (turnTo h i)).2) (by rw [hc]; exact hx) hf hi
      refine ⟨k', { (σ.cas 0 h (turnTo h i)).2 with r := (σ.cas 0 h (turnTo h i)).2.r.set j' x' }, x', ?_, by rw [hc], h2, h3, by rw [hc]; simp, by rw [hc], ?_, Nat.le_succ_of_le h7, fun h00 => by rw [hc]; show ct ((σ.xs.set 0 _).getD 0 0) ≤ _ ∧ 0 ≤ (σ.xs.set 0 _).getD 0 0; rw [getD_set_self _ _ _ hl, he]; rw [he] at h00; exact ct_turn_le _ h00⟩
      · show (if (σ.cas 0 h (turnTo h i)).1 then _ else _) = _
        rw [if_pos (by rw [hc])]
        exact h1
      · refine Nat.le_trans (Nat.add_le_add_right (h6 _) 1) ?_
        simp only [cost]
        split <;> omega
    · have hc := cas_miss (v := turnTo h i) hl he
      refine ⟨.pshL j' l i, { σ with c := σ.c + 1 }, x, ?_, same rfl, ⟨rfl, hi⟩, hf, rfl, rfl, ?_, Nat.le_refl _, keep rfl⟩
      · show (if (σ.cas 0 h (turnTo h i)).1 then _ else _) = _
        rw [hc]
        rfl
      · simp only [cost]
        rw [if_neg he]
        omega

/-- All tasks' states go with their workers: task p is worker p + d's. -/
structure All8 (d : Nat) (ks : List K8) (τ : St (List W8)) : Prop where
  len : ks.length + d = τ.r.length
  pos : 0 < τ.xs.length
  tk : ∀ (p : Nat) (k : K8) (x : W8), ks[p]? = some k → τ.r[p + d]? = some x → Tk (p + d) x k ∧ Fine x (acts k)
  few : ∀ k ∈ ks, acts k ≤ 12
/-- The cost of a task. -/
def costAt (ks : List K8) (xs : List Int) (p : Nat) : Nat := match ks[p]? with
  | none => 0
  | some k => cost xs k
theorem over_k {ks : List K8} {τ : St (List W8)} {p : Nat} {k : K8} (hk : ks[p]? = some k) : (Eight.mk a b gb ks τ).over p = (S8 a b gb).nil k := over_at (M := Eight.mk a b gb ks τ) hk
theorem All8.step {d : Nat} {ks : List K8} {τ : St (List W8)} (h : All8 d ks τ) (p : Nat) : (Eight.mk a b gb ks τ).can p ∧ ∃ ks' τ', (Eight.mk a b gb ks τ).step p = Eight.mk a b gb ks' τ' ∧ All8 d ks' τ' ∧ ((Eight.mk a b gb ks τ).over p = false → costAt ks' τ'.xs p + 1 ≤ costAt ks τ.xs p) ∧ (0 ≤ τ.xs.getD 0 0 → ct (τ'.xs.getD 0 0) ≤ ct (τ.xs.getD 0 0) + 1 ∧ 0 ≤ τ'.xs.getD 0 0) := by
  cases hk : ks[p]? with
  | none =>
    have e : (Eight.mk a b gb ks τ).step p = Eight.mk a b gb ks τ := by
      refine Mach.step_over ?_
      unfold Mach.over
      have : (Eight.mk a b gb ks τ).ks[p]? = none := hk
      rw [this]
    refine ⟨fun k hk' => ?_, ks, τ, e, h, fun ho => ?_, fun h0 => ⟨by omega, h0⟩⟩
    · have : (Eight.mk a b gb ks τ).ks[p]? = none := hk
      rw [this] at hk'
      simp at hk'
    · unfold Mach.over at ho
      have : (Eight.mk a b gb ks τ).ks[p]? = none := hk
      rw [this] at ho
      simp at ho
  | some k =>
    have hp : p < ks.length := (List.getElem?_eq_some_iff.1 hk).1
    have hpr : p + d < τ.r.length := by rw [← h.len]; omega
    have hx : τ.r[p + d]? = some τ.r[p + d] := List.getElem?_eq_getElem hpr
    obtain ⟨ht, hf⟩ := h.tk p k _ hk hx
    have ho := over_k (a := a) (b := b) (gb := gb) (τ := τ) hk
    by_cases hn : (S8 a b gb).nil k = true
    · have e : (Eight.mk a b gb ks τ).step p = Eight.mk a b gb ks τ := Mach.step_over (ho.trans hn)
      refine ⟨fun k' hk' hn' => ?_, ks, τ, e, h, fun ho' => ?_, fun h0 => ⟨by omega, h0⟩⟩
      · have h2 : ks[p]? = some k' := hk'
        rw [hk] at h2
        obtain rfl := Option.some.inj h2
        rw [hn] at hn'
        simp at hn'
      · rw [ho, hn] at ho'
        simp at ho'
    · have hn' : (S8 a b gb).nil k = false := by simpa using hn
      obtain ⟨k', σ', x', h1, h2, h3, h4, h5, h6, h7, h8, h9⟩ := goes (a := a) (b := b) (gb := gb) (σ := bump τ p) hn' hx ht hf h.pos
      have e : (Eight.mk a b gb ks τ).step p = Eight.mk a b gb (ks.set p k') σ' := by
        unfold Mach.step
        have hk2 : (Eight.mk a b gb ks τ).ks[p]? = some k := hk
        rw [hk2]
        simp only [hn']
        have hs' : (S8 a b gb).next k { (Eight.mk a b gb ks τ).σ with steps := (Eight.mk a b gb ks τ).σ.steps.set p ((Eight.mk a b gb ks τ).σ.steps.getD p 0 + 1) } = some (k', σ') := h1
        rw [hs']
        rfl
      refine ⟨fun k2 hk2 _ => ?_, _, _, e, ?_, fun _ => ?_, h9⟩
      · have h2 : ks[p]? = some k2 := hk2
        rw [hk] at h2
        obtain rfl := Option.some.inj h2
        exact ⟨_, h1⟩
      · refine ⟨?_, ?_, fun q k2 y hk2 hy => ?_, fun k2 hk2 => ?_⟩
        rotate_right
        · rcases List.mem_or_eq_of_mem_set hk2 with hk2 | rfl
          · exact h.few k2 hk2
          · exact Nat.le_trans h8 (h.few k (List.mem_of_getElem? hk))
        · rw [h2]
          simp [h.len, bump]
        · rw [h5]
          exact h.pos
        · rw [h2] at hy
          by_cases hq : p = q
          · subst hq
            simp [hp] at hk2
            simp [hpr, bump] at hy
            subst hk2 hy
            exact ⟨h3, h4⟩
          · rw [List.getElem?_set_ne hq] at hk2
            rw [List.getElem?_set_ne (by omega)] at hy
            exact h.tk q k2 y hk2 hy
      · have e1 : costAt ks τ.xs p = cost τ.xs k := by unfold costAt; rw [hk]
        have e2 : costAt (ks.set p k') σ'.xs p = cost σ'.xs k' := by
          unfold costAt
          simp [hp]
        rw [e1, e2]
        exact h7
theorem cost_live {ks : List K8} {τ : St (List W8)} {p : Nat} (h : (Eight.mk a b gb ks τ).over p = false) : 1 ≤ costAt ks τ.xs p := by
  unfold costAt
  cases hk : ks[p]? with
  | none =>
    unfold Mach.over at h
    have : (Eight.mk a b gb ks τ).ks[p]? = none := hk
    rw [this] at h
    simp at h
  | some k =>
    rw [over_k hk] at h
    cases k <;> simp only [cost] <;> first | (simp [S8] at h; done) | (try split) <;> omega
theorem All8.fin {d : Nat} {ks : List K8} {τ : St (List W8)} (h : All8 d ks τ) (p : Nat) : ∀ j, ∃ ks' τ', (Eight.mk a b gb ks τ).fin p j = Eight.mk a b gb ks' τ' ∧ All8 d ks' τ' ∧ ((Eight.mk a b gb ks' τ').over p = true ∨ costAt ks' τ'.xs p + j ≤ costAt ks τ.xs p) ∧ (0 ≤ τ.xs.getD 0 0 → ct (τ'.xs.getD 0 0) ≤ ct (τ.xs.getD 0 0) + j ∧ 0 ≤ τ'.xs.getD 0 0)
  | 0 => ⟨ks, τ, rfl, h, Or.inr (Nat.le_refl _), fun h0 => ⟨by omega, h0⟩⟩
  | j + 1 => by
    obtain ⟨ks1, τ1, e1, h1, h2, h3⟩ := All8.fin h p j
    obtain ⟨_, ks2, τ2, e2, h4, h5, h6⟩ := h1.step (a := a) (b := b) (gb := gb) p
    refine ⟨ks2, τ2, by show ((Eight.mk a b gb ks τ).fin p j).step p = _; rw [e1, e2], h4, ?_, fun h0 => ?_⟩
    rotate_right
    · have q1 := h3 h0
      have q2 := h6 q1.2
      exact ⟨by omega, q2.2⟩
    cases ho : (Eight.mk a b gb ks1 τ1).over p with
    | true =>
      refine Or.inl ?_
      rw [← e2, Mach.step_over ho]
      exact ho
    | false =>
      right
      have := h5 ho
      have h6 := h2.resolve_left (by rw [ho]; simp)
      omega
theorem All8.ends {d : Nat} {ks : List K8} {τ : St (List W8)} (h : All8 d ks τ) (p : Nat) {n : Nat} (hn : costAt ks τ.xs p ≤ n) : ((Eight.mk a b gb ks τ).fin p n).over p = true := by
  obtain ⟨ks1, τ1, e1, h1, h2, _⟩ := h.fin (a := a) (b := b) (gb := gb) p n
  rw [e1]
  rcases h2 with h2 | h2
  · exact h2
  · cases ho : (Eight.mk a b gb ks1 τ1).over p with
    | true => rfl
    | false =>
      have := cost_live ho
      omega
theorem All8.cost_le {d : Nat} {ks : List K8} {τ : St (List W8)} (h : All8 d ks τ) (p : Nat) : costAt ks τ.xs p ≤ 38 := by
  unfold costAt
  split
  · omega
  · rename_i k hk
    have := cost_acts τ.xs k
    have := h.few k (List.mem_of_getElem? hk)
    omega
theorem All8.can_fin {d : Nat} {ks : List K8} {τ : St (List W8)} (h : All8 d ks τ) (p j : Nat) : ((Eight.mk a b gb ks τ).fin p j).can p := by
  obtain ⟨ks1, τ1, e1, h1, _⟩ := h.fin (a := a) (b := b) (gb := gb) p j
  rw [e1]
  exact (h1.step p).1
theorem All8.run {d : Nat} {ks : List K8} {τ : St (List W8)} (h : All8 d ks τ) (ps : List Int) : ∃ ks' τ', ((Eight.mk a b gb ks τ).run ps).1 = Eight.mk a b gb ks' τ' ∧ All8 d ks' τ' := by
  have : ∀ (ps : List Int) (ks : List K8) (τ : St (List W8)) (n : Int), All8 d ks τ → ∃ ks' τ', (ps.foldl Mach.pick (Eight.mk a b gb ks τ, n)).1 = Eight.mk a b gb ks' τ' ∧ All8 d ks' τ' := by
    intro ps
    induction ps with
    | nil => exact fun ks τ n h => ⟨ks, τ, rfl, h⟩
    | cons p ps ih =>
      intro ks τ n h
      rw [List.foldl_cons]
      obtain ⟨_, ks2, τ2, e2, h2, _, _⟩ := h.step (a := a) (b := b) (gb := gb) p.toNat
      cases hm : (Eight.mk a b gb ks τ).may p with
      | true =>
        have e : Mach.pick (Eight.mk a b gb ks τ, n) p = (Eight.mk a b gb ks2 τ2, n + 1) := by
          unfold Mach.pick
          rw [if_pos hm, ← e2]
        rw [e]
        exact ih ks2 τ2 _ h2
      | false =>
        have e : Mach.pick (Eight.mk a b gb ks τ, n) p = (Eight.mk a b gb ks τ, n) := by
          unfold Mach.pick
          rw [if_neg (by rw [hm]; simp)]
        rw [e]
        exact ih ks τ _ h
  exact this ps ks τ 0 h
end Go.Proofs.Ythllplocbciepaa.Kod.Eight
