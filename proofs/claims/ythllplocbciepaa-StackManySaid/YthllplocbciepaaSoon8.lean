/- Layer 8, StackSoon: what holds while tasks are made, and behind their steps. -/
import Derived.Test.YthllplocbciepaaGrp8
import Derived.Test.YthllplocbciepaaAny8
import Derived.Test.YthllplocbciepaaOpenB
import Derived.Test.YthllplocbciepaaOpenS
import Derived.Test.YthllplocbciepaaRnd8b
namespace Go.Proofs.Ythllplocbciepaa.Kod.Eight
open Go.RowKit Go.Proofs.Ythllplocbciepaa Go.Proofs.Ythllplocbciepaa.Cell Go.Proofs.Ythllplocbciepaa.Wd
set_option linter.unusedVariables false
set_option linter.unusedSimpArgs false

abbrev stkcells (a : Nat) : List Value := [.pointer (some ⟨a, 0, none⟩), .int .i64 0, .func (.func 76) #[] #[]]
theorem slk_rdv {w : World} {v : Value} {xs : List Int} (h : SlK .i64 w v xs) : ∃ A c, v = .slice A xs.length c ∧ xs.length ≤ c ∧ c ≤ maxLen ∧ RdV w w.heap.size A (xs.map (Value.int .i64)) := by
  rcases h with ⟨rfl, rfl⟩ | ⟨d, cap, rfl, h1, h2, h3⟩
  · exact ⟨none, 0, rfl, Nat.le_refl _, Nat.zero_le _, RdV.nil⟩
  · refine ⟨some d, cap, rfl, h1, h2, fun i v hi => ?_⟩
    obtain ⟨hj, rfl⟩ := List.getElem?_eq_some_iff.1 hi
    have hj' : i < xs.length := by simpa using hj
    have hc := h3 i hj'
    refine ⟨d, rfl, ?_, by rw [hc]; simp⟩
    have := Go.block_lt_of_cell hc
    rw [addr_block] at this
    exact this
/-- The beginning: an arena, the stack in a box, no worker, no task. -/
theorem grp_begin {a b B g k m n : Nat} {w0 w wr : World} {R : Array Value} {t : TypeId} (hk : k ≤ 100) (hA : Arena w a b 0 (List.replicate (1 + k) 0)) (hn : n < 4611686018427387904) (hm : Made w wr) (h0 : Below B w0 w) (hB : B ≤ a ∧ B ≤ b ∧ B ≤ w.heap.size) (hg : w.heap.size ≤ g) (hb : wr.heap[g]? = some (.cells R t (0, 0))) :
    Grp (S8 a b fun _ => 0) B m n (mk a b (fun _ => 0) [] ⟨0, List.replicate (1 + k) 0, [], []⟩) [] [] [] [(some ⟨g, 0, none⟩, R.toList)] (fun _ => False) w0 wr := by
  have hi : Inv (S8 a b fun _ => 0) n ⟨0, List.replicate (1 + k) 0, [], []⟩ [] ⟨[], fun _ => False, fun _ => False, []⟩ w :=
    Inv.start (S := S8 a b fun _ => 0) hA (zeros_wide _) (by simp; omega) hn (fun k hk => hk.elim) ⟨fun _ => .slice none 0 0, fun _ => .slice none 0 0, rfl, List.nodup_nil, fun j x b h => by simp at h, fun i j k h => by simp at h, fun i j k h => by simp at h, fun i j k h => by simp at h, fun j x h => by simp at h, fun i j x y _ h => by simp at h⟩
  have ha := lt_of_at hA.ha
  have hb' := lt_of_at hA.hb
  have hg0 : Grp (S8 a b fun _ => 0) B m n (mk a b (fun _ => 0) [] ⟨0, List.replicate (1 + k) 0, [], []⟩) [] [] [] [] (fun _ => False) w0 w :=
    ⟨⟨[], _, Ready.start hi, rfl, rfl, ⟨hB.2.2, fun q hq hmut => by
      rcases hmut with e | e | e | e | e
      · have e' : q = a := e
        omega
      · have e' : q = b := e
        omega
      · simp at e
      · exact e
      · exact e⟩, fun c hc => by simp at hc, fun z hz => by simp at hz, fun q => Iff.rfl⟩, h0, fun q hq => hq.elim⟩
  exact hg0.box hm hg hb
/-- While tasks are made: i are there. -/
structure Soon (a b B g k i : Nat) (lv : Value) (w0 wr : World) : Prop where
  ex : ∃ ks τ ts gh Z, Grp (S8 a b fun _ => 0) B 400 800 (mk a b (fun _ => 0) ks τ) ts gh [] Z (fun q => lv.ownBlock = some q) w0 wr ∧ All8 0 ks τ ∧ ks.length = i ∧ gh.length = i ∧ (some ⟨g, 0, none⟩, stkcells a) ∈ Z ∧ wr.ownsRow B 57 1 lv i (ptrs ts) ∧ τ.xs.length = 1 + k
theorem Soon.stk {a b B g k i : Nat} {lv : Value} {w0 wr : World} (h : Soon a b B g k i lv w0 wr) : wr.cell? ⟨g, 0, none⟩ = some (.pointer (some ⟨a, 0, none⟩)) ∧ wr.cell? ⟨g, 1, none⟩ = some (.int .i64 0) ∧ wr.cell? ⟨g, 2, none⟩ = some (.func (.func 76) #[] #[]) := by
  obtain ⟨ks, τ, ts, gh, Z, hG, hA, hi, hgh, hz, hrow, hxs⟩ := h.ex
  exact ⟨hG.lie0 hz (i := 0) rfl, hG.lie0 hz (i := 1) rfl, hG.lie0 hz (i := 2) rfl⟩
theorem Soon.bel {a b B g k i : Nat} {lv : Value} {w0 wr : World} (h : Soon a b B g k i lv w0 wr) : Below B w0 wr := by
  obtain ⟨ks, τ, ts, gh, Z, hG, hA, hi, hgh, hz, hrow, hxs⟩ := h.ex
  exact hG.bel
theorem Soon.begin {a b B g k : Nat} {w0 w wr : World} {t : TypeId} (hk : k ≤ 100) (hA : Arena w a b 0 (List.replicate (1 + k) 0)) (hm : Made w wr) (h0 : Below B w0 w) (hB : B ≤ a ∧ B ≤ b ∧ B ≤ w.heap.size) (hg : w.heap.size ≤ g) (hb : wr.heap[g]? = some (.cells (stkcells a).toArray t (0, 0))) : Soon a b B g k 0 (.slice none 0 0) w0 wr := by
  have h := grp_begin (m := 400) (n := 800) hk hA (by omega) hm h0 hB hg hb
  refine ⟨⟨[], _, [], [], _, h.rescr (X := fun q => (Value.slice none 0 0).ownBlock = some q) (Wrote.of_made (Made.refl _)) (fun q hq => by simp [Value.ownBlock] at hq), ⟨rfl, by simp; omega, fun p k x hk => by simp at hk, by simp⟩, rfl, rfl, by simp [stkcells], World.ownsRow_nil _ _ _ _, by simp⟩⟩
/-- A worker is made, and its task. -/
theorem Soon.go {a b B g k i N c : Nat} {lv hv : Value} {w0 wr w' : World} {x : W8} {l : List Bool} {A : Option Addr} (h : Soon a b B g k i lv w0 wr) (hm : Made wr w') (hb : w'.heap[wr.heap.size]? = some (.cells #[hv, .pointer none, .bool x.busy, .bool x.bare, .bool x.wrong] 88 (0, 0)))
    (hrow : w'.ownsRow wr.heap.size 3 1 hv x.hands.length (x.hands.map (.int .i64))) (hf : Fine x l.length) (hN : Hid (N = l.length)) (hNc : N ≤ c) (hc : c ≤ 9223372036854775807) (hl : RdV w0 B A (l.map Value.bool)) (h12 : l.length ≤ 12) :
    Calls Try.prog 51 #[stk8 a, .slice A N c, .pointer (some ⟨wr.heap.size, 0, none⟩)] w' fun e w1 => ∃ v, e = .returned v ∧ (v = .nilFunc ∨ ∃ f cap, v = .func (.func f) #[] cap) ∧
      Hid (Calls Try.prog 37 #[v] w1 fun e w2 => ∃ tb ps, e = .returned (.pointer (some ⟨tb, 0, none⟩)) ∧ B ≤ w2.heap.size ∧ Hid (w2.ownsRow B 57 1 lv i ps) ∧
        Hid (∀ (o : Obj) (w5 : World) (lv' : Value), w5.ownsRow B 57 1 lv' (i + 1) (ps ++ [.pointer (some ⟨tb, 0, none⟩)]) → (w2.alloc o).grownBy w5 lv.ownBlock → (lv.ownBlock = lv'.ownBlock ∨ ∀ k, lv'.ownBlock = some k → w2.heap.size ≤ k) → Soon a b B g k (i + 1) lv' w0 w5)) := by
  obtain ⟨ks, τ, ts, gh, Z, hG, hA, hi, hgh, hz, hlv, hxs⟩ := h.ex
  have hG1 := (Eight.Grp.worker8 hG hm (Nat.le_refl _) hb hrow hf.rng hf.got).given (A := A) (vs := l.map Value.bool) hl
  have hlen := hA.len
  have hri : τ.r.length = i := by omega
  have hxi : (τ.r ++ [x])[i]? = some x := by rw [← hri]; simp
  refine (Eight.Grp.code8 hG1 (j := i) (by rw [← hgh]; simp) hxi hN hNc hc List.mem_cons_self).mono ?_
  rintro e w1 ⟨v, kk, τ1, rfl, hv, he, HG2, hs1⟩
  refine ⟨v, rfl, hv, ?_⟩
  show Calls _ _ _ _ _
  refine (HG2.out.new_c List.mem_cons_self).mono ?_
  rintro e w2 ⟨rfl, hm2, hsz2, HG3⟩
  have hs2 := hs1.trans (HG2.out.same_made hm2)
  have hrow2 : w2.ownsRow B 57 1 lv i (ptrs ts) := hs2.row (fun k hk => hk) ((hG.same_made hm).row (fun k hk => hk) hlv)
  refine ⟨_, _, rfl, HG3.out.bel_le, hrow2, ?_⟩
  show ∀ (o : Obj) (w5 : World) (lv' : Value), _
  intro o w5 lv' hown hgrow hat
  obtain ⟨k', x', h1, h2, h3, h4, h5, h6, h7⟩ := enter_any (j := i) (σ := { τ with r := τ.r ++ [x] }) l hxi hf
  have he' : (k', { τ with r := (τ.r ++ [x]).set i x' }) = (kk, τ1) := Option.some.inj (h1.symm.trans he)
  obtain ⟨rfl, rfl⟩ : k' = kk ∧ { τ with r := (τ.r ++ [x]).set i x' } = τ1 := by simpa using he'
  have hma : Made w2 (w2.alloc o) := (Made.refl _).alloc (Nat.le_refl _) _
  have hset : (τ.r ++ [x]).set i x' = τ.r ++ [x'] := by rw [← hri]; simp
  refine ⟨⟨ks ++ [k'], _, _, _, _, (HG3.out.drop (C' := []) (Z' := (some ⟨g, 0, none⟩, stkcells a) :: Z) (fun c hc => by simp at hc) (fun z hz' => by
      rcases List.mem_cons.1 hz' with rfl | hz'
      · exact List.mem_cons_of_mem _ hz
      · exact List.mem_cons_of_mem _ hz')).rescr (X := fun q => lv'.ownBlock = some q) ((Wrote.of_made hma).trans (Wrote.of_grown hgrow)) (fun q hq => ⟨?_, (hown.lt q hq).2⟩), ⟨?_, ?_, fun p k2 y hk2 hy => ?_, ?_⟩, by simp [hi], by simp [hgh], List.mem_cons_self, by rw [← ptrs_snoc]; exact hown, hxs⟩⟩
  · rcases hat with hat | hat
    · exact Or.inl (hat.trans hq)
    · exact Or.inr (hat q hq)
  · show (ks ++ [k']).length + 0 = ((τ.r ++ [x]).set i x').length
    rw [hset]
    simp [hri, hi]
  · show 0 < τ.xs.length
    omega
  · have hy' : ((τ.r ++ [x]).set i x')[p]? = some y := hy
    rw [hset] at hy'
    by_cases hp : p < i
    · rw [List.getElem?_append_left (by omega)] at hk2 hy'
      exact hA.tk p k2 y hk2 hy'
    · have hp2 := (List.getElem?_eq_some_iff.1 hk2).1
      simp at hp2
      obtain rfl : p = i := by omega
      rw [← hi] at hk2
      simp at hk2
      rw [← hri] at hy'
      simp at hy'
      subst hk2 hy'
      exact ⟨h2, h3⟩
  · intro k2 hk2
    rcases List.mem_append.1 hk2 with hk2 | hk2
    · exact hA.few k2 hk2
    · simp at hk2
      subst hk2
      omega
/-- Steps of tasks, as picked; then one of them comes to its end. -/
theorem Soon.run {a b B g k i N N' c c' who : Nat} {A : Option Addr} {w0 wr : World} {A' : Option Addr} {ps : List Int} (h : Soon a b B g k i (.slice A N c) w0 wr) (hps : ps.length ≤ 300) (hN' : Hid (N' = ps.length)) (hi5 : i ≤ 5) (hp : RdV w0 B A' (ps.map (.int .i64))) (hw : who < i) : N = i ∧
    Hid (Calls Try.prog 39 #[.slice A N c, .slice A' N' c'] wr fun e w1 => ∃ q, e = .returned (.int .i64 q) ∧ ∃ g1 t, A = some ⟨g1, 0, none⟩ ∧ w1.cell? ⟨g1, who, none⟩ = some (.pointer (some ⟨t, 0, none⟩)) ∧
      Hid (Calls Try.prog 45 #[.pointer (some ⟨t, 0, none⟩), .int .i64 72] w1 fun e w2 => e = .returned (.bool true) ∧ Below B w0 w2)) := by
  obtain ⟨ks, τ, ts, gh, Z, hG, hA, hi, hgh, hz, hlv, hxs⟩ := h.ex
  obtain ⟨A1, c1, e1, h1, h2, h3, hG1⟩ := hG.seal (X := fun _ => False) hlv (Nat.le_refl _) (fun k hk => hk) (fun k hk => hk.elim) (fun k hk => id)
  obtain ⟨rfl, rfl, rfl⟩ : A = A1 ∧ N = i ∧ c = c1 := by simpa using e1
  have hlens := hG.lens
  have htl : ts.length = N := by rw [hlens.1]; exact hi
  have hG2 := (hG1.given (A := A') (vs := ps.map (.int .i64)) hp).lower (m' := 72 + ps.length) (n' := 2 * 72 + 2 * ps.length) (by omega) (by omega)
  refine ⟨rfl, ?_⟩
  show Calls _ _ _ _ _
  refine (hG2.run_c (m := 72) (n := 2 * 72) ps (Lib.hid htl.symm) hN' (by omega) (List.mem_cons_of_mem _ List.mem_cons_self) List.mem_cons_self (fun q hq j => ?_)).mono ?_
  · obtain ⟨ks', τ', e', h'⟩ := hA.run (a := a) (b := b) (gb := fun _ => 0) (ps.take q)
    rw [e']
    exact (h'.step j).1
  rintro e w1 ⟨rfl, HG3, hs⟩
  obtain ⟨g1, cap, e2, _, _⟩ := hlv.form (by omega)
  obtain ⟨rfl, -, rfl⟩ : A = some ⟨g1, 0, none⟩ ∧ N = N ∧ c = cap := by simpa using e2
  have hwt : who < ts.length := by omega
  refine ⟨_, rfl, g1, ts[who], rfl, HG3.out.lie0 (List.mem_cons_of_mem _ List.mem_cons_self) (by simp [ptrs, hwt]), ?_⟩
  show Calls _ _ _ _ _
  obtain ⟨ks', τ', e', h'⟩ := hA.run (a := a) (b := b) (gb := fun _ => 0) ps
  have hG4 := HG3.out
  rw [e'] at hG4
  refine ((Grp.finish_c (m := 0) (n := 0) (N := 72) (i := who) (t := ts[who]) (hG4.lower (by omega) (by omega)) (List.getElem?_eq_getElem hwt) 72 (fun j hj _ => by omega) (fun j _ => h'.can_fin who j))).mono ?_
  rintro e w2 ⟨rfl, HG5, _⟩
  refine ⟨?_, HG5.out.bel⟩
  have := h'.ends (a := a) (b := b) (gb := fun _ => 0) who (n := 72) (by have := h'.cost_le who; omega)
  have e72 : ((72 : Int).toNat) = 72 := rfl
  rw [e72, this]
end Go.Proofs.Ythllplocbciepaa.Kod.Eight
