/- Package wheel, in plain words: which tickets a Pass tells; how the lists are what they were, but for these. -/
import Derived.Test.YtndpkonihcebeaaWst2
namespace Go.Proofs.Ytndpkonihcebeaa.Whl
open Go.RowKit Go.Proofs.Ytndpkonihcebeaa Go.Proofs.Ytndpkonihcebeaa.Cell Go.Proofs.Ytndpkonihcebeaa.Seq Go.Proofs.Ytndpkonihcebeaa.Num Go.Proofs.Ytndpkonihcebeaa.SetN Go.Proofs.Ytndpkonihcebeaa.Dig Go.Proofs.Ytndpkonihcebeaa.Bits
set_option linter.unusedVariables false
set_option linter.unusedSimpArgs false
variable {L S N : Nat}

theorem mem_listOf (hS : 1 ≤ S) {chs : Nat → Nat → List Nat} {x : Nat × Nat × Nat} : x ∈ listOf L S chs ↔ Val L S x.2.1 x.2.2 ∧ x.1 ∈ chs x.2.1 x.2.2 := by
  obtain ⟨t, lv, sl⟩ := x
  unfold listOf upTo slotsUp
  simp only [List.mem_append, List.mem_flatMap, List.mem_range, List.mem_map, Prod.mk.injEq]
  constructor
  · rintro (⟨a, ha, b, hb, u, hu, rfl, rfl, rfl⟩ | ⟨u, hu, rfl, rfl, rfl⟩)
    · exact ⟨⟨by omega, hb, fun c => by omega⟩, hu⟩
    · exact ⟨⟨Nat.le_refl _, by omega, fun _ => rfl⟩, hu⟩
  · rintro ⟨⟨h1, h2, h3⟩, h4⟩
    by_cases hl : lv = L
    · subst hl
      have := h3 rfl
      subst this
      exact Or.inr ⟨t, h4, rfl, rfl, rfl⟩
    · exact Or.inl ⟨lv, by omega, sl, h2, t, h4, rfl, rfl, rfl⟩
theorem ps_none {cr : Nat → Option (Nat × Nat)} {lv a b : Nat} (hc : cr lv = none) (h : lv ≤ a) : ¬ ps cr L lv a b := fun ⟨h2, _⟩ => h2 lv (Nat.le_refl _) h hc
theorem ps_here {cr : Nat → Option (Nat × Nat)} {lv lo hi b : Nat} (hc : cr lv = some (lo, hi)) : ps cr L lv lv b ↔ (lv = L ∨ (lo ≤ b ∧ b ≤ hi)) := by
  constructor
  · rintro ⟨_, lo2, hi2, e2, h3⟩
    rw [hc] at e2
    simp only [Option.some.injEq, Prod.mk.injEq] at e2
    obtain ⟨rfl, rfl⟩ := e2
    exact h3
  · intro h3
    exact ⟨fun j h1 h2 => by rw [show j = lv by omega, hc]; simp, lo, hi, hc, h3⟩
theorem ps_on {cr : Nat → Option (Nat × Nat)} {lv a b : Nat} {p : Nat × Nat} (hc : cr lv = some p) (h : lv + 1 ≤ a) : ps cr L (lv + 1) a b ↔ ps cr L lv a b := by
  constructor
  · rintro ⟨h2, h3⟩
    refine ⟨fun j g1 g2 => ?_, h3⟩
    by_cases ej : j = lv
    · subst ej; rw [hc]; simp
    · exact h2 j (by omega) g2
  · rintro ⟨h2, h3⟩
    exact ⟨fun j g1 g2 => h2 j (by omega) g2, h3⟩
open Classical in
theorem passG_eq {cr : Nat → Option (Nat × Nat)} {chs : Nat → Nat → List Nat} : ∀ d lv, lv + d = L →
    passG cr S d lv chs = ((List.range' lv d).flatMap fun a => (List.range S).flatMap fun b => if ps cr L lv a b then chs a b else []) ++ (if ps cr L lv L 0 then chs L 0 else [])
  | 0, lv, hd => by
    obtain rfl : lv = L := by omega
    unfold passG
    cases hc : cr lv with
    | none => rw [if_neg (ps_none hc (Nat.le_refl _))]; rfl
    | some p =>
      obtain ⟨lo, hi⟩ := p
      rw [if_pos ((ps_here hc).2 (Or.inl rfl))]; rfl
  | d + 1, lv, hd => by
    unfold passG
    cases hc : cr lv with
    | none =>
      rw [if_neg (ps_none hc (by omega)), List.append_nil]
      symm
      rw [List.flatMap_eq_nil_iff]
      intro a ha
      rw [List.mem_range'] at ha
      obtain ⟨i, _, rfl⟩ := ha
      rw [List.flatMap_eq_nil_iff]
      intro b _
      rw [if_neg (ps_none hc (by omega))]
    | some p =>
      obtain ⟨lo, hi⟩ := p
      simp only []
      rw [passG_eq d (lv + 1) (by omega), List.range'_succ, List.flatMap_cons, List.append_assoc]
      congr 1
      · apply flatMap_congr'
        intro b _
        have h := ps_here (L := L) (b := b) hc
        by_cases hp : lo ≤ b ∧ b ≤ hi
        · rw [if_pos hp, if_pos (h.2 (Or.inr hp))]
        · rw [if_neg hp, if_neg (fun c => by rcases h.1 c with c | c; omega; exact hp c)]
      · congr 1
        · apply flatMap_congr'
          intro a ha
          rw [List.mem_range'] at ha
          obtain ⟨i, _, rfl⟩ := ha
          apply flatMap_congr'
          intro b _
          have h := ps_on (L := L) (b := b) hc (a := lv + 1 + 1 * i) (by omega)
          by_cases hp : ps cr L lv (lv + 1 + 1 * i) b
          · rw [if_pos hp, if_pos (h.2 hp)]
          · rw [if_neg hp, if_neg (fun c => hp (h.1 c))]
        · have h := ps_on (L := L) (b := 0) hc (a := L) (by omega)
          by_cases hp : ps cr L lv L 0
          · rw [if_pos hp, if_pos (h.2 hp)]
          · rw [if_neg hp, if_neg (fun c => hp (h.1 c))]
theorem mem_passG (hS : 1 ≤ S) {cr : Nat → Option (Nat × Nat)} {chs : Nat → Nat → List Nat} {t : Nat} : t ∈ passG cr S L 0 chs ↔ ∃ a b, Val L S a b ∧ ps cr L 0 a b ∧ t ∈ chs a b := by
  rw [passG_eq (L := L) L 0 (Nat.zero_add L), List.mem_append, List.mem_flatMap]
  constructor
  · rintro (⟨a, ha, h⟩ | h)
    · rw [List.mem_range'] at ha
      obtain ⟨i, hi, rfl⟩ := ha
      rw [List.mem_flatMap] at h
      obtain ⟨b, hb, h⟩ := h
      rw [List.mem_range] at hb
      split at h
      · rename_i hp
        exact ⟨_, b, ⟨by omega, hb, fun c => by omega⟩, hp, h⟩
      · simp at h
    · split at h
      · rename_i hp
        exact ⟨L, 0, ⟨Nat.le_refl _, by omega, fun _ => rfl⟩, hp, h⟩
      · simp at h
  · rintro ⟨a, b, ⟨h1, h2, h3⟩, hp, h⟩
    by_cases hl : a = L
    · subst hl
      have := h3 rfl
      subst this
      rw [if_pos hp]
      exact Or.inr h
    · refine Or.inl ⟨a, List.mem_range'.2 ⟨a, by omega, by omega⟩, List.mem_flatMap.2 ⟨b, List.mem_range.2 h2, ?_⟩⟩
      rw [if_pos hp]; exact h
open Classical in
/-- Each ticket is passed, or stays. -/
theorem pass_len {cr : Nat → Option (Nat × Nat)} {chs : Nat → Nat → List Nat} (hS : 1 ≤ S) : (listOf L S chs).length = (passG cr S L 0 chs).length + (listOf L S (passCh cr L 0 chs)).length := by
  have one : ∀ a b, Val L S a b → (chs a b).length = (if ps cr L 0 a b then chs a b else []).length + (passCh cr L 0 chs a b).length := fun a b hv => by
    rw [passCh_eq L 0 chs (by omega) a b hv]
    by_cases hp : ps cr L 0 a b
    · rw [if_pos hp, if_pos ⟨Nat.zero_le _, hp⟩]; simp
    · rw [if_neg hp, if_neg (fun c => hp c.2)]; simp
  have h0 := one L 0 ⟨Nat.le_refl _, by omega, fun _ => rfl⟩
  rw [passG_eq (L := L) L 0 (Nat.zero_add L), ← List.range_eq_range']
  unfold listOf
  rw [List.length_append, List.length_append, List.length_append, List.length_map, List.length_map]
  have e : (upTo S chs L).length = ((List.range L).flatMap fun a => (List.range S).flatMap fun b => if ps cr L 0 a b then chs a b else []).length + (upTo S (passCh cr L 0 chs) L).length := by
    unfold upTo
    refine range_len_add L fun a ha => ?_
    unfold slotsUp
    refine range_len_add S fun b hb => ?_
    rw [List.length_map, List.length_map]
    exact one a b ⟨by omega, hb, fun c => by omega⟩
  omega
/-- What isn't passed stays, in its order. -/
theorem listOf_pass {cr : Nat → Option (Nat × Nat)} {xs : List Int} {chs : Nat → Nat → List Nat} (h : Wst L S N xs chs) : listOf L S (passCh cr L 0 chs) = (listOf L S chs).filter fun x => !decide (x.1 ∈ passG cr S L 0 chs) := by
  classical
  have hS := h.s1
  have one : ∀ a b, Val L S a b → ((passCh cr L 0 chs a b).map fun t => (t, a, b)) = ((chs a b).map fun t => (t, a, b)).filter fun x => !decide (x.1 ∈ passG cr S L 0 chs) := fun a b hv => by
    rw [passCh_eq L 0 chs (by omega) a b hv]
    by_cases hp : ps cr L 0 a b
    · rw [if_pos ⟨Nat.zero_le _, hp⟩, List.map_nil]
      symm
      rw [List.filter_eq_nil_iff]
      intro x hx
      obtain ⟨t, ht, rfl⟩ := List.mem_map.1 hx
      have : t ∈ passG cr S L 0 chs := (mem_passG hS).2 ⟨a, b, hv, hp, ht⟩
      simp [this]
    · rw [if_neg (fun c => hp c.2)]
      symm
      rw [List.filter_eq_self]
      intro x hx
      obtain ⟨t, ht, rfl⟩ := List.mem_map.1 hx
      have : ¬ t ∈ passG cr S L 0 chs := fun c => by
        obtain ⟨a', b', hv', hp', ht'⟩ := (mem_passG hS).1 c
        obtain ⟨rfl, rfl⟩ := h.nd a b a' b' t hv hv' ht ht'
        exact hp hp'
      simp [this]
  have h0 := one L 0 ⟨Nat.le_refl _, by omega, fun _ => rfl⟩
  unfold listOf
  rw [List.filter_append, ← h0]
  congr 1
  unfold upTo
  rw [List.filter_flatMap]
  apply flatMap_congr'
  intro a ha
  rw [List.mem_range] at ha
  unfold slotsUp
  rw [List.filter_flatMap]
  apply flatMap_congr'
  intro b hb
  rw [List.mem_range] at hb
  exact one a b ⟨by omega, hb, fun c => by omega⟩
/-- Where a thing that stays is found again. -/
theorem filter_get {α : Type} (p : α → Bool) : ∀ (l : List α) (r : Nat) (x : α), l[r]? = some x → p x = true → (l.filter p)[((l.take r).filter p).length]? = some x
  | [], r, x, h, _ => by simp at h
  | y :: l, 0, x, h, hp => by
    simp only [List.getElem?_cons_zero, Option.some.injEq] at h
    subst h
    simp [List.filter_cons, hp]
  | y :: l, r + 1, x, h, hp => by
    simp only [List.getElem?_cons_succ] at h
    have ih := filter_get p l r x h hp
    rw [List.take_succ_cons, List.filter_cons, List.filter_cons]
    by_cases hy : p y = true
    · rw [if_pos hy, if_pos hy]; simpa using ih
    · rw [if_neg hy, if_neg hy]; exact ih
theorem filter_take {α : Type} (p : α → Bool) (l : List α) (r : Nat) (x : α) (h : l[r]? = some x) : ((l.take (r + 1)).filter p).length = ((l.take r).filter p).length + (if p x = true then 1 else 0) := by
  rw [List.take_add_one, h, List.filter_append, List.length_append]
  congr 1
  simp only [Option.toList_some, List.filter_cons, List.filter_nil]
  split <;> rfl
/-- No ticket is in two lists, nor twice in one. -/
theorem listOf_nodup {xs : List Int} {chs : Nat → Nat → List Nat} (h : Wst L S N xs chs) : ((listOf L S chs).map fun x => x.1).Nodup := by
  have hS := h.s1
  have one : ∀ a b, Val L S a b → (((chs a b).map fun t => (t, a, b)).map fun x : Nat × Nat × Nat => x.1).Nodup := fun a b hv => by
    rw [List.map_map]
    have : ((fun x : Nat × Nat × Nat => x.1) ∘ fun t => (t, a, b)) = id := rfl
    rw [this, List.map_id]
    exact h.ndl a b hv
  unfold listOf
  rw [List.map_append, List.nodup_append]
  refine ⟨?_, one L 0 ⟨Nat.le_refl _, by omega, fun _ => rfl⟩, ?_⟩
  · unfold upTo
    rw [List.map_flatMap, List.Nodup, List.pairwise_flatMap]
    refine ⟨fun a ha => ?_, List.Pairwise.imp_of_mem ?_ List.pairwise_lt_range⟩
    · rw [List.mem_range] at ha
      unfold slotsUp
      rw [List.map_flatMap, List.pairwise_flatMap]
      refine ⟨fun b hb => one a b ⟨by omega, List.mem_range.1 hb, fun c => by omega⟩, List.Pairwise.imp_of_mem ?_ List.pairwise_lt_range⟩
      intro b b' hb hb' hlt x hx y hy e
      rw [List.mem_range] at hb hb'
      simp only [List.map_map, List.mem_map] at hx hy
      obtain ⟨t, ht, rfl⟩ := hx
      obtain ⟨u, hu, rfl⟩ := hy
      have e2 : t = u := e
      subst e2
      have := (h.nd a b a b' t ⟨by omega, hb, fun c => by omega⟩ ⟨by omega, hb', fun c => by omega⟩ ht hu).2
      omega
    · intro a a' ha ha' hlt x hx y hy e
      rw [List.mem_range] at ha ha'
      unfold slotsUp at hx hy
      simp only [List.map_flatMap, List.mem_flatMap, List.map_map, List.mem_map, List.mem_range] at hx hy
      obtain ⟨b, hb, t, ht, rfl⟩ := hx
      obtain ⟨b', hb', u, hu, rfl⟩ := hy
      have e2 : t = u := e
      subst e2
      have := (h.nd a b a' b' t ⟨by omega, hb, fun c => by omega⟩ ⟨by omega, hb', fun c => by omega⟩ ht hu).1
      omega
  · intro x hx y hy e
    unfold upTo slotsUp at hx
    simp only [List.map_flatMap, List.mem_flatMap, List.map_map, List.mem_map, List.mem_range] at hx hy
    obtain ⟨a, ha, b, hb, t, ht, rfl⟩ := hx
    obtain ⟨u, hu, rfl⟩ := hy
    have e2 : t = u := e
    subst e2
    have := (h.nd a b L 0 t ⟨by omega, hb, fun c => by omega⟩ ⟨Nat.le_refl _, by omega, fun _ => rfl⟩ ht hu).1
    omega
theorem sub_flat {α β : Type} {f g : α → List β} : ∀ {l : List α}, (∀ i ∈ l, (f i).Sublist (g i)) → (l.flatMap f).Sublist (l.flatMap g)
  | [], _ => by simp
  | i :: r, h => by
    rw [List.flatMap_cons, List.flatMap_cons]
    exact (h i List.mem_cons_self).append (sub_flat fun j hj => h j (List.mem_cons_of_mem _ hj))
theorem passG_sub {cr : Nat → Option (Nat × Nat)} {chs : Nat → Nat → List Nat} : (passG cr S L 0 chs).Sublist ((listOf L S chs).map fun x => x.1) := by
  classical
  have one : ∀ a b, (if ps cr L 0 a b then chs a b else []).Sublist (((chs a b).map fun t => (t, a, b)).map fun x : Nat × Nat × Nat => x.1) := fun a b => by
    rw [List.map_map]
    have : ((fun x : Nat × Nat × Nat => x.1) ∘ fun t => (t, a, b)) = id := rfl
    rw [this, List.map_id]
    split
    · exact List.Sublist.refl _
    · exact List.nil_sublist _
  rw [passG_eq (L := L) L 0 (Nat.zero_add L), ← List.range_eq_range']
  unfold listOf
  rw [List.map_append]
  refine List.Sublist.append ?_ (one L 0)
  unfold upTo
  rw [List.map_flatMap]
  refine sub_flat fun a ha => ?_
  unfold slotsUp
  rw [List.map_flatMap]
  exact sub_flat fun b hb => one a b
theorem passG_nodup {cr : Nat → Option (Nat × Nat)} {xs : List Int} {chs : Nat → Nat → List Nat} (h : Wst L S N xs chs) : (passG cr S L 0 chs).Nodup := (listOf_nodup h).sublist passG_sub
end Go.Proofs.Ytndpkonihcebeaa.Whl
