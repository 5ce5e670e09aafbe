/- Layer 8's laws: workers are made, their codes are made. -/
import Derived.Test.YthllplocbciepaaGrp
import Derived.Test.YthllplocbciepaaRnd8
namespace Go.Proofs.Ythllplocbciepaa.Kod.Eight
open Go.RowKit Go.Proofs.Ythllplocbciepaa Go.Proofs.Ythllplocbciepaa.Cell Go.Proofs.Ythllplocbciepaa.Wd
set_option linter.unusedVariables false
set_option linter.unusedSimpArgs false
variable {a b : Nat} {gb : Nat → Nat} {B m n : Nat} {ks : List K8} {τ : St (List W8)} {ts gh : List Nat} {C : List (K8 × Value)} {Z : List (Option Addr × List Value)} {own : Nat → Prop} {w0 wr w' : World}

theorem Grp.code8 {j wb N c : Nat} {x : W8} {l : List Bool} {A : Option Addr} (h : Grp (S8 a b gb) B m n (mk a b gb ks τ) ts gh C Z own w0 wr) (hg : gh[j]? = some wb) (hx : τ.r[j]? = some x) (hN : Hid (N = l.length)) (hNc : N ≤ c) (hc : c ≤ 9223372036854775807) (hl : (A, l.map Value.bool) ∈ Z) :
    Calls Try.prog 51 #[stk8 a, .slice A N c, .pointer (some ⟨wb, 0, none⟩)] wr fun e w1 => ∃ v k τ', e = .returned v ∧ (v = .nilFunc ∨ ∃ f cap, v = .func (.func f) #[] cap) ∧ enter j l τ = some (k, τ') ∧ Hid (Grp (S8 a b gb) B m n (mk a b gb ks τ') ts gh ((k, v) :: C) Z own w0 w1) ∧ Same own wr w1 := by
  have hbel := h.bel
  have hlow := h.low
  obtain ⟨rs, L, hr, hts, rfl, hold, hC, hZ, hscr⟩ := h.ex
  refine (code_r hr hg hx hN hNc hc (hZ _ hl)).mono ?_
  rintro e w1 ⟨v, L1, k, τ1, rfl, e1, k1, r1, p1, he⟩
  obtain ⟨g1, g2⟩ := Grp.ran hr hts rfl hold hC hZ hscr hbel hlow e1 k1 r1 (Nat.le_refl _)
  refine ⟨v, k, τ1, rfl, p1.func, he, ⟨?_, g1.bel, g1.low⟩, g2⟩
  exact ⟨_, L1, r1, k1.ts.trans hts, k1.gh, hold.later e1, fun c hc => by
    rcases List.mem_cons.1 hc with rfl | hc
    · exact p1
    · exact (hC c hc).later e1, fun z hz => (hZ z hz).later e1, fun q => by rw [k1.scr]; exact hscr q⟩
theorem Wk.mono {own own' : Nat → Prop} {w : World} {b gb : Nat} {x : W8} {hv sv : Value} (h : Wk own w b gb x hv sv) (hs : ∀ k : Nat, own k → own' k) : Wk own' w b gb x hv sv :=
  ⟨hs _ h.mine, h.cells, h.row, fun k hk => hs k (h.rown k hk), h.rng, fun g hg => by
    obtain ⟨g1, g2, g3, g4⟩ := h.got g hg
    exact ⟨hs _ g1, g2, g3, fun k hk => hs k (g4 k hk)⟩⟩
theorem W8s.add {r : List W8} {own own' : Nat → Prop} {gh : List Nat} {w w' : World} {hv sv : Nat → Value} {x : W8} {wb : Nat} {hx : Value} (h : W8s r own gh w hv sv gb) (ho : ∀ k, own k → k < w.heap.size) (hs : ∀ k : Nat, own k → w'.heap[k]? = w.heap[k]?) (hle : ∀ k, own k → own' k)
    (hwb : w.heap.size ≤ wb) (hmine : own' wb) (hb : w'.heap[wb]? = some (.cells #[hx, .pointer none, .bool x.busy, .bool x.bare, .bool x.wrong] 88 (0, 0))) (hrow : w'.ownsRow w.heap.size 3 1 hx x.hands.length (x.hands.map (.int .i64))) (hrown : ∀ k, hx.ownBlock = some k → own' k) (hrng : ∀ i ∈ x.hands, 0 ≤ i ∧ i < 4294967295) (hgot : x.got = none) :
    W8s (r ++ [x]) own' (gh ++ [wb]) w' (fun j => if j = r.length then hx else hv j) (fun j => if j = r.length then .slice none 0 0 else sv j) gb := by
  have hlt : ∀ q ∈ gh, q < w.heap.size := fun q hq => by
    obtain ⟨j, hj, he⟩ := List.getElem_of_mem hq
    have hjr : j < r.length := by rw [← h.len]; exact hj
    exact ho q ((h.wk j _ q (List.getElem?_eq_getElem hjr) (by rw [List.getElem?_eq_getElem hj, he])).mine)
  have hxb : ∀ k, hx.ownBlock = some k → w.heap.size ≤ k := fun k hk => (hrow.lt k hk).1
  have old : ∀ {j : Nat} {y : W8}, j < r.length → (r ++ [x])[j]? = some y → r[j]? = some y := fun hj hy => by rw [List.getElem?_append_left hj] at hy; exact hy
  have at2 : ∀ {j : Nat} {y : W8}, (r ++ [x])[j]? = some y → j < r.length ∨ (j = r.length ∧ y = x) := by
    intro j y hy
    have hj := (List.getElem?_eq_some_iff.1 hy).1
    simp at hj
    by_cases h2 : j < r.length
    · exact Or.inl h2
    · obtain rfl : j = r.length := by omega
      simp at hy
      exact Or.inr ⟨rfl, hy.symm⟩
  refine ⟨by simp [h.len], ?_, fun j y q hy hq => ?_, fun i j k hi hj hij hk => ?_, fun i j k hi hj hk => ?_, fun i j k hi hj hij hk => ?_, fun j y hy hg => ?_, fun i j y z hij hy hz gy gz => ?_⟩
  · rw [List.nodup_append]
    refine ⟨h.once, by simp, fun p hp q hq => ?_⟩
    simp at hq
    subst hq
    have := hlt p hp
    omega
  · rcases at2 hy with hj | ⟨rfl, rfl⟩
    · rw [List.getElem?_append_left (by rw [h.len]; exact hj)] at hq
      simp only [if_neg (show j ≠ r.length by omega)]
      exact ((h.wk j y q (old hj hy) hq).later hs).mono hle
    · rw [← h.len] at hq
      simp at hq
      subst hq
      simp only [if_true]
      exact ⟨hmine, by simpa [gotv, hgot] using hb, row_mono hrow (Nat.zero_le _), hrown, hrng, fun g hg => by rw [hgot] at hg; simp at hg⟩
  · simp at hi hj
    try simp only at hk ⊢
    split at hk <;> split
    · omega
    · intro e
      have := hxb k hk
      have := h.hlt (by omega) e
      omega
    · intro e
      have := hxb k e
      have := h.hlt (by omega) hk
      omega
    · exact h.hh i j k (by omega) (by omega) hij hk
  · simp at hi hj
    try simp only at hk ⊢
    split at hk <;> split
    · simp [Value.ownBlock]
    · intro e
      have := hxb k hk
      have := h.slt (by omega) e
      omega
    · simp [Value.ownBlock]
    · exact h.hs i j k (by omega) (by omega) hk
  · simp at hi hj
    try simp only at hk ⊢
    split at hk <;> split
    · omega
    · simp [Value.ownBlock] at hk
    · simp [Value.ownBlock]
    · exact h.ss i j k (by omega) (by omega) hij hk
  · rcases at2 hy with hj | ⟨rfl, rfl⟩
    · simp only [if_neg (show j ≠ r.length by omega)]
      exact h.sn j y (old hj hy) hg
    · simp [Value.ownBlock]
  · rcases at2 hy with hi | ⟨rfl, rfl⟩
    · rcases at2 hz with hj | ⟨rfl, rfl⟩
      · exact h.gg i j y z hij (old hi hy) (old hj hz) gy gz
      · rw [hgot] at gz
        simp at gz
    · rw [hgot] at gy
      simp at gy
/-- A worker more, who notes nothing. -/
theorem Grp.worker8 {x : W8} {hv : Value} {wb : Nat} (h : Grp (S8 a b gb) B m n (mk a b gb ks τ) ts gh C Z own w0 wr) (hm : Made wr w') (hwb : wr.heap.size ≤ wb) (hb : w'.heap[wb]? = some (.cells #[hv, .pointer none, .bool x.busy, .bool x.bare, .bool x.wrong] 88 (0, 0)))
    (hrow : w'.ownsRow wr.heap.size 3 1 hv x.hands.length (x.hands.map (.int .i64))) (hrng : ∀ i ∈ x.hands, 0 ≤ i ∧ i < 4294967295) (hgot : x.got = none) : Grp (S8 a b gb) B m n (mk a b gb ks { τ with r := τ.r ++ [x] }) ts (gh ++ [wb]) C Z own w0 w' := by
  have hlow := h.low
  have hbel := h.bel
  obtain ⟨rs, L, hr, hts, rfl, hold, hC, hZ, hscr⟩ := h.ex
  have hi := hr.inv
  have hi' := hi.later hm
  have hxb : ∀ k, hv.ownBlock = some k → wr.heap.size ≤ k ∧ k < w'.heap.size := fun k hk => hrow.lt k hk
  have hwl := lt_of_at hb
  obtain ⟨L', hL'⟩ : ∃ L' : Lay, L' = { L with own := fun q => L.own q ∨ q = wb ∨ hv.ownBlock = some q, gh := L.gh ++ [wb] } := ⟨_, rfl⟩
  have e : Ext (S8 a b gb) wr L w' L' := by
    rw [hL']
    refine ⟨hm.os, hm.tape, hm.output, hm.size, fun k hk hn => ⟨fun e => ?_, hm.block k hk⟩, List.prefix_append _ _⟩
    rcases e with e | e | e | e | e
    · exact hn (Or.inl e)
    · exact hn (Or.inr (Or.inl e))
    · exact hn (Or.inr (Or.inr (Or.inl e)))
    · rcases e with e | e | e
      · exact hn (Or.inr (Or.inr (Or.inr (Or.inl e))))
      · omega
      · have := (hxb k e).1; omega
    · exact hn (Or.inr (Or.inr (Or.inr (Or.inr e))))
  have inv : Inv (S8 a b gb) n { τ with r := τ.r ++ [x] } rs L' w' := by
    rw [hL']
    refine ⟨hi'.ar, hi'.fuel, hi'.wide, hi'.len, hi'.nts, hi'.nst, hi'.task, hi'.few, hi'.once, fun t ht => ⟨(hi.tsa t ht).1, (hi.tsa t ht).2.1, fun e => ?_⟩, fun k hk => ?_, ?_, fun k hk => ⟨(hi'.scra k hk).1, (hi'.scra k hk).2.1, (hi'.scra k hk).2.2.1, fun e => ?_, (hi'.scra k hk).2.2.2.2⟩⟩
    · have := hi.task_lt ht
      rcases e with e | e | e
      · exact (hi.tsa t ht).2.2 e
      · omega
      · have := (hxb t e).1; omega
    · have la := lt_of_at hi.ar.ha
      have lb := lt_of_at hi.ar.hb
      rcases hk with hk | hk | hk
      · exact hi'.owna k hk
      · subst hk
        exact ⟨by omega, by omega, hwl⟩
      · have := hxb k hk
        exact ⟨by omega, by omega, this.2⟩
    · obtain ⟨hvs, svs, hJ⟩ := hi.rest
      exact ⟨_, _, hJ.add (fun k hk => (hi.owna k hk).2.2) (fun k hk => hm.block k (hi.owna k hk).2.2) (fun k hk => Or.inl hk) hwb (Or.inr (Or.inl rfl)) hb hrow (fun k hk => Or.inr (Or.inr hk)) hrng hgot⟩
    · have := (hi.scra k hk).2.2.2.2
      rcases e with e | e | e
      · exact (hi.scra k hk).2.2.2.1 e
      · omega
      · have := (hxb k e).1; omega
  have hts' : L'.ts = ts := by rw [hL']; exact hts
  have hgh' : L'.gh = L.gh ++ [wb] := by rw [hL']
  have hsc' : ∀ k, L'.scr k ↔ own k := by rw [hL']; exact hscr
  exact ⟨⟨rs, L', Ready.next hr e inv, hts', hgh', hold.later e, fun c hc => (hC c hc).later e, fun z hz => (hZ z hz).later e, hsc'⟩, hbel.trans (hold.below e), hlow⟩
end Go.Proofs.Ythllplocbciepaa.Kod.Eight
