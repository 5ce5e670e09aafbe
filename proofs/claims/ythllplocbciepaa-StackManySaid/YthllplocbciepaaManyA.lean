/- Merged out of ManyL, ManyM, ManyN, ManyP, ManyF (see each head). -/
import Derived.Test.YthllplocbciepaaMany8
import Derived.Test.YthllplocbciepaaRef8b
/- Layer 8, StackMany: bare; and what holds between two picks. -/
namespace Go.Proofs.Ythllplocbciepaa.Kod.Eight
open Go.RowKit Go.Proofs.Ythllplocbciepaa Go.Proofs.Ythllplocbciepaa.Cell Go.Proofs.Ythllplocbciepaa.Wd
set_option linter.unusedVariables false
set_option linter.unusedSimpArgs false

theorem Many.flag {K N : Nat} {s : List Int} {ks : List K8} {τ : St (List W8)} {j : Nat} {x : W8} (h : Many K N s ks τ) (hx : τ.r[j]? = some x) : Many K N s ks (setw τ j { x with bare := true }) := by
  have hj : j < τ.r.length := (List.getElem?_eq_some_iff.1 hx).1
  have at2 : ∀ {q : Nat} {y : W8}, (setw τ j { x with bare := true }).r[q]? = some y → ∃ z, τ.r[q]? = some z ∧ y.hands = z.hands ∧ y.got = z.got ∧ y.wrong = z.wrong := by
    intro q y hy
    by_cases hq : j = q
    · subst hq
      simp [setw, hj] at hy
      subst hy
      exact ⟨x, hx, rfl, rfl, rfl⟩
    · simp only [setw, List.getElem?_set_ne hq] at hy
      exact ⟨y, hy, rfl, rfl, rfl⟩
  refine ⟨⟨?_, h.all.pos, fun p k y hk hy => ?_, h.all.few⟩, h.stk, h.len, ?_, h.cnt, h.ok, fun p y hy => ?_, fun y hy => by obtain ⟨z, hz, e1, e2, e3⟩ := at2 hy; rw [e1]; exact h.fst z hz⟩
  · simpa [setw] using h.all.len
  · obtain ⟨z, hz, e1, e2, e3⟩ := at2 hy
    obtain ⟨t1, t2⟩ := h.all.tk p k z hk hz
    refine ⟨?_, ⟨by rw [e1]; exact t2.rng, by rw [e2]; exact t2.got, by rw [e1]; exact t2.few⟩⟩
    cases k <;> simp only [Tk] at t1 ⊢ <;> (try rw [e1]) <;> exact t1
  · obtain ⟨A, B, e1, e2⟩ := hands_set τ.r j x hx
    have h1 := h.perm
    show (s ++ allHands (τ.r.set j _)).Perm _
    rw [e2]
    rw [e1] at h1
    exact h1
  · obtain ⟨z, hz, e1, e2, e3⟩ := at2 hy
    rw [e3]
    exact h.right p z hz
/-- Rows of pointers. -/
def ptrw (gh : List Nat) : List Value := gh.map fun g => .pointer (some ⟨g, 0, none⟩)
set_option maxRecDepth 100000 in
set_option maxHeartbeats 2000000 in
theorem bare_c {a b B m n g1 : Nat} {K NN N c : Nat} {s : List Int} {ks : List K8} {τ : St (List W8)} {ts gh : List Nat} {C : List (K8 × Value)} {Z : List (Option Addr × List Value)} {own : Nat → Prop} {w0 wi : World} {A : Option Addr} (h : Grp (S8 a b fun _ => 0) B m n (mk a b (fun _ => 0) ks τ) ts (g1 :: gh) C Z own w0 wi) (hm : Many K NN s ks τ) (hA : (A, ptrw gh) ∈ Z) (hN : Hid (N = gh.length)) (hn : (N : Int) ≤ 1000) (hr : τ.r.length = gh.length + 1) :
    Calls Try.prog 56 #[stk8 a, .slice A N c] wi fun e w' => e = .returned (.tuple #[]) ∧ ∃ τ', Hid (Grp (S8 a b fun _ => 0) B m n (mk a b (fun _ => 0) ks τ') ts (g1 :: gh) C Z own w0 w') ∧ Hid (Many K NN s ks τ') ∧ (∀ (q : Nat) (x : W8), τ'.r[q + 1]? = some x → s = [] → x.bare = true) ∧ Same own wi w' ∧ τ'.r.length = τ.r.length ∧ τ'.c = τ.c ∧ τ'.xs = τ.xs := by
  have hma : Made wi (wi.alloc (.cells #[.pointer (some ⟨a, 0, none⟩), .int .i64 0, .func (.func 76) #[] #[]] 81)) := (Made.refl _).alloc (Nat.le_refl _) _
  have HG1 := Lib.hid (h.later hma)
  have HS1 := Lib.hid (h.same_made hma)
  have HL := Lib.hid (List_c HG1.out.ar.1 HG1.out.ar.2.1 hm.stk)
  have HMN := Lib.hid hm
  have HZ := Lib.hid hA
  have HR := Lib.hid hr
  clear h hma hm hA hr
  go_enter Try.func56, Try.ntmps56
  go_wp2_with fail
  refine HL.out.mono ?_
  rintro e w2 ⟨A2, c2, rfl, hrow, hm2⟩
  have HG2 := Lib.hid (HG1.out.later hm2)
  have HS2 := Lib.hid (HS1.out.trans (HG1.out.same_made hm2))
  clear hrow hm2 HL HG1 HS1
  cases s with
  | cons i t =>
    have hpos : ((i :: t).length : Int) = (t.length : Int) + 1 := by simp
    have ht0 : (0 : Int) < (t.length : Int) + 1 := by omega
    rw [List.length_cons]
    go_wp2_with fail
    refine bodyPost_ret (v := .tuple #[]) (by simp [results, go_sem]) rfl ?_
    exact ⟨rfl, τ, HG2.out, HMN.out, fun q x _ hq => by simp at hq, HS2.out, rfl, rfl, rfl⟩
  | nil =>
    go_wp2_with fail
    go_loopw [12] (fun iv wz => ∃ (i : Nat) (τ' : St (List W8)), iv = .int .i64 (i : Int) ∧ i ≤ N ∧ Hid (Grp (S8 a b fun _ => 0) B m n (mk a b (fun _ => 0) ks τ') ts (g1 :: gh) C Z own w0 wz) ∧ Hid (Many K NN [] ks τ') ∧ Hid (∀ (q : Nat) (x : W8), q < i → τ'.r[q + 1]? = some x → x.bare = true) ∧ Hid (Same own wi wz) ∧ Hid (τ'.r.length = τ.r.length) ∧ Hid (τ'.c = τ.c ∧ τ'.xs = τ.xs)) (fun iv _ => (N - intOf iv).toNat)
    case atStart => exact ⟨0, τ, rfl, by omega, HG2, HMN, by show ∀ (q : Nat) (x : W8), _; intro q x hq; omega, HS2, rfl, ⟨rfl, rfl⟩⟩
    case round =>
      obtain ⟨i, τ', rfl, hi, HG, HM, HB, HS, HRL, HCE⟩ := hrel
      by_cases hlt : i < N
      · have hig : i < gh.length := by have := hN.out; omega
        obtain ⟨d, rfl, hd⟩ := HG.out.lie HZ.out i (.pointer (some ⟨gh[i], 0, none⟩)) (by simp [ptrw, hig])
        obtain ⟨gi, hgi⟩ : ∃ gi, gi = gh[i] := ⟨_, rfl⟩
        rw [← hgi] at hd
        have hir : i + 1 < τ'.r.length := by have := HRL.out; have := HR.out; omega
        obtain ⟨x, hx⟩ : ∃ x, τ'.r[i + 1]? = some x := ⟨_, List.getElem?_eq_getElem hir⟩
        have hg2 : (g1 :: gh)[i + 1]? = some gi := by simp [hig, hgi]
        obtain ⟨c0, c1, hc⟩ := Grp.cells8 HG.out hg2 hx
        obtain ⟨hG3, hS3⟩ := Grp.flag8 (j := i + 1) (wb := gi) (o := 3) (x' := { x with bare := true }) (c := true) HG.out hg2 hx rfl rfl (fun c0 c1 => rfl)
        have HG3 := Lib.hid hG3
        have HS3 := Lib.hid (HS.out.trans hS3)
        have HM3 := Lib.hid (HM.out.flag hx)
        have HB3 : Hid (∀ (q : Nat) (y : W8), q < i + 1 → (setw τ' (i + 1) { x with bare := true }).r[q + 1]? = some y → y.bare = true) := by
          show ∀ (q : Nat) (y : W8), _
          intro q y hq hy
          by_cases hqi : i = q
          · subst hqi
            simp [setw, hir] at hy
            rw [← hy]
          · simp only [setw] at hy
            rw [List.getElem?_set_ne (by omega)] at hy
            exact HB.out q y (by omega) hy
        have HRL3 : Hid ((setw τ' (i + 1) { x with bare := true }).r.length = τ.r.length) := by show _ = _; simp only [setw, List.length_set]; exact HRL.out
        have k3 : wr.cell? ⟨gi, 3, none⟩ = some (.bool x.bare) := by rw [cell_of_row _ _ _ _ _ _ hc]; rfl
        have z3 : wr.frozen? ⟨gi, 3, none⟩ = false := frozen_of_row _ _ _ _ _ hc
        have i0 : (0 : Int) ≤ (i : Int) := by omega
        have i1 : (i : Int) < (N : Int) := by omega
        clear hG3 hS3 hc hx hg2 hgi hig hir HG HM HB HS HRL
        go_wp2_with fail
        go_roundw
        case rel => exact ⟨i + 1, _, by go_num, by omega, HG3, HM3, HB3, HS3, HRL3, HCE⟩
        case measure => simp [intOf]; omega
      · obtain rfl : i = N := by omega
        go_wp2_with fail
        refine bodyPost_end (results_none rfl _ _ _) rfl ?_
        refine ⟨rfl, τ', HG.out, HM.out, ?_, HS.out, HRL.out, HCE.out⟩
        intro q x hx
        refine HB.out q x ?_ hx
        have h1 := (List.getElem?_eq_some_iff.1 hx).1
        have := HRL.out
        have := HR.out
        have := hN.out
        omega
end Go.Proofs.Ythllplocbciepaa.Kod.Eight

/- Layer 8, StackMany: the first worker lays all things; then tasks are made. -/
namespace Go.Proofs.Ythllplocbciepaa.Kod.Eight
open Go.RowKit Go.Proofs.Ythllplocbciepaa Go.Proofs.Ythllplocbciepaa.Cell Go.Proofs.Ythllplocbciepaa.Wd
set_option linter.unusedVariables false
set_option linter.unusedSimpArgs false

/-- What one has, and what is to be put, while both are filled. -/
structure H2 (g : Nat) (W wr : World) (t s : Nat) (hv pv : Value) : Prop where
  h1 : H1 g false W wr t hv
  pr : wr.ownsRow (g + 1 + 1) 4 1 pv s (List.replicate s (.bool false))
theorem H2.hand {g t s : Nat} {W wr u : World} {hv hv' pv : Value} {o : Obj} (h : H2 g W wr t s hv pv) (hown : u.ownsRow (g + 1 + 1) 3 1 hv' (t + 1) (upto t ++ [.int .i64 (t : Int)])) (hgrow : (wr.alloc o).grownBy u hv.ownBlock) :
    H2 g W (u.setCell ⟨g + 1, 0, none⟩ hv') (t + 1) s hv' pv ∧ u.cell? ⟨g + 1, 0, none⟩ = some hv ∧ u.frozen? ⟨g + 1, 0, none⟩ = false := by
  obtain ⟨a1, a2, a3⟩ := h.h1.hand hown hgrow
  refine ⟨⟨a1, rowb_later h.pr fun k hk => ?_⟩, a2, a3⟩
  obtain ⟨hb, cur, hc⟩ := rowb_block h.pr hk
  have hk1 : k ≠ g + 1 := by omega
  rw [Cell.heap_setCell_other _ _ _ _ _ hk1]
  refine (hgrow.block k (by simp only [World.size_alloc]; have := lt_of_at hc; omega) (fun e => ?_)).trans (heap_alloc_old _ _ (lt_of_at hc))
  obtain ⟨_, cur2, hc2⟩ := rowb_block h.h1.hr e.symm
  exact kind_ne hc hc2 (by decide) rfl
theorem H2.put {g t s : Nat} {W wr u : World} {hv pv pv' : Value} {o : Obj} (h : H2 g W wr t s hv pv) (hown : u.ownsRow (g + 1 + 1) 4 1 pv' (s + 1) (List.replicate s (.bool false) ++ [.bool false])) (hgrow : (wr.alloc o).grownBy u pv.ownBlock) : H2 g W u t (s + 1) hv pv' := by
  have hsz := h.h1.sz
  have hus : wr.heap.size + 1 ≤ u.heap.size := by have := hgrow.size; simpa using this
  have old : ∀ k : Nat, k < wr.heap.size → pv.ownBlock ≠ some k → u.heap[k]? = wr.heap[k]? := fun k hk hn => (hgrow.block k (by simp; omega) hn.symm).trans (heap_alloc_old _ _ hk)
  have hlow : ∀ k : Nat, k < g + 1 + 1 → pv.ownBlock ≠ some k := fun k hk e => by have := (rowb_block h.pr e).1; omega
  refine ⟨⟨⟨hgrow.os.trans h.h1.bel.os, hgrow.tape.trans h.h1.bel.tape, hgrow.output.trans h.h1.bel.output, by have := h.h1.bel.size; omega, fun k hk => ?_⟩, by omega, ?_, ?_⟩, ?_⟩
  · rw [old k (by omega) (hlow k (by omega)), h.h1.bel.block k hk]
  · rw [old _ (by omega) (hlow _ (by omega))]; exact h.h1.wk
  · refine rowb_later h.h1.hr fun k hk => ?_
    obtain ⟨hb, cur, hc⟩ := rowb_block h.h1.hr hk
    refine old k (lt_of_at hc) (fun e => ?_)
    obtain ⟨_, cur2, hc2⟩ := rowb_block h.pr e
    exact kind_ne hc hc2 (by decide) rfl
  · rw [← List.replicate_succ'] at hown
    exact hown
/-- The first worker. -/
def x1 (k : Nat) : W8 := ⟨nums k, none, false, false, false⟩
/-- One worker, who has the numbers below one; what is to be put. -/
theorem grp_two {a b B k m n : Nat} {w0 w wr : World} {hv : Value} {Ap : Option Addr} {cp : Nat} (hk : k < 30) (hA : Arena w a b 0 (List.replicate (1 + k) 0)) (hn : n < 4611686018427387904) (h0 : Below B w0 w) (hB : B ≤ a ∧ B ≤ b ∧ B ≤ w.heap.size) (h : H2 w.heap.size (w.alloc (.cells (stkcells a).toArray 81)) wr k k hv (.slice Ap k cp)) :
    k ≤ cp ∧ cp ≤ maxLen ∧ Grp (S8 a b fun _ => 0) B m n (mk a b (fun _ => 0) [] ⟨0, List.replicate (1 + k) 0, [], [x1 k]⟩) [] [w.heap.size + 1] [] [(some ⟨w.heap.size, 0, none⟩, stkcells a), (Ap, List.replicate k (.bool false))] (fun _ => False) w0 wr := by
  have la := lt_of_at hA.ha
  have lb := lt_of_at hA.hb
  have hsz := h.h1.sz
  have m1 : Made w (w.alloc (.cells (stkcells a).toArray 81)) := (Made.refl _).alloc (Nat.le_refl _) _
  have hmm : Made w wr := Below.trans m1 (Below.mono h.h1.bel (by omega))
  obtain ⟨d1, d2, d3, d4⟩ := row_dims h.pr
  have hi : Inv (S8 a b fun _ => 0) n ⟨0, List.replicate (1 + k) 0, [], [x1 k]⟩ [] ⟨[], fun q => q = w.heap.size + 1 ∨ hv.ownBlock = some q, fun _ => False, [w.heap.size + 1]⟩ wr := by
    refine begin_got (hv := hv) (sv := .slice none 0 0) (hA.later hmm) (zeros_wide _) (by simp; omega) hn (fun q hq => ?_) ⟨Or.inl rfl, ?_, ?_, fun q hq => Or.inr hq, fun i hi => ?_, fun g hg => by simp [x1] at hg⟩ (fun q _ e => by simp [Value.ownBlock] at e) (fun _ => rfl)
    · rcases hq with rfl | hq
      · exact ⟨by omega, by omega, by omega⟩
      · obtain ⟨h1, cur, h2⟩ := rowb_block h.h1.hr hq
        have := lt_of_at h2
        exact ⟨by omega, by omega, this⟩
    · rw [h.h1.wk]
      rfl
    · have e : (x1 k).hands = nums k := rfl
      rw [e, nums_len, nums_upto]
      exact row_mono h.h1.hr (Nat.zero_le _)
    · have := nums_rng hi
      omega
  have nomut : ∀ q, w.heap.size ≤ q → q ≠ w.heap.size + 1 → hv.ownBlock ≠ some q → ¬ Mut (S8 a b fun _ => 0) ⟨[], fun q => q = w.heap.size + 1 ∨ hv.ownBlock = some q, fun _ => False, [w.heap.size + 1]⟩ q := by
    intro q h1 h2 h3 e
    rcases e with e | e | e | e | e
    · have e' : q = a := e
      omega
    · have e' : q = b := e
      omega
    · simp at e
    · rcases e with e | e
      · exact h2 e
      · exact h3 e
    · exact e
  have hst : wr.heap[w.heap.size]? = some (.cells (stkcells a).toArray 81 (0, 0)) := (h.h1.bel.block _ (by omega)).trans (heap_alloc_new _ _)
  obtain ⟨A1, c1, e1, _, hli⟩ := owns_lies (S := S8 a b fun _ => 0) h.pr (fun q hq => nomut q (by have := (rowb_block h.pr hq).1; omega) (by have := (rowb_block h.pr hq).1; omega) (fun e => by
    obtain ⟨_, cur, g2⟩ := rowb_block h.pr hq
    obtain ⟨_, cur2, g3⟩ := rowb_block h.h1.hr e
    exact kind_ne g2 g3 (by decide) rfl))
  obtain ⟨rfl, -, rfl⟩ : Ap = A1 ∧ k = k ∧ cp = c1 := by simpa using e1
  refine ⟨d3, d4, ⟨[], _, Ready.start hi, rfl, rfl, ⟨by omega, fun q hq hmut => ?_⟩, fun c hc => by simp at hc, fun z hz => ?_, fun q => Iff.rfl⟩, Below.trans h0 (Below.mono hmm (by omega)), fun q hq => hq.elim⟩
  · rcases hmut with e | e | e | e | e
    · have e' : q = a := e
      omega
    · have e' : q = b := e
      omega
    · simp at e
    · rcases e with e | e
      · omega
      · have := (rowb_block h.h1.hr e).1
        omega
    · exact e
  · simp at hz
    rcases hz with rfl | rfl
    · refine Lies.row hst (nomut _ (Nat.le_refl _) (by omega) (fun e => by have := (rowb_block h.h1.hr e).1; omega)) (fun i v hv => by rw [Nat.zero_add]; simpa using hv)
    · exact hli
theorem x1_fit {k n : Nat} (hk : k < 30) : Fit (List.replicate (1 + k) 0) [] (x1 k) n := (fitb (n := n) hk).any rfl rfl
/-- While tasks are made: i are there. -/
structure Mid (a b B g k i : Nat) (tv wv : Value) (w0 wr : World) : Prop where
  ex : ∃ ks τ ts gh Z s, Grp (S8 a b fun _ => 0) B 1000 2000 (mk a b (fun _ => 0) ks τ) ts ((g + 1) :: gh) [] Z (fun q => tv.ownBlock = some q ∨ wv.ownBlock = some q) w0 wr ∧ Many k 1000 s ks τ ∧ ks.length = i ∧ gh.length = i ∧ (some ⟨g, 0, none⟩, stkcells a) ∈ Z ∧ wr.ownsRow B 57 1 tv i (ptrs ts) ∧ wr.ownsRow B 85 1 wv i (ptrw gh)
/-- The first worker's task, from its beginning to its end. -/
theorem lay_c {a b B k : Nat} {w0 w wr : World} {hv : Value} {Ap : Option Addr} {cp : Nat} (hk : k < 30) (hk12 : k ≤ 12) (hA : Arena w a b 0 (List.replicate (1 + k) 0)) (h0 : Below B w0 w) (hB : B ≤ a ∧ B ≤ b ∧ B ≤ w.heap.size) (h : H2 w.heap.size (w.alloc (.cells (stkcells a).toArray 81)) wr k k hv (.slice Ap k cp)) :
    (wr.cell? ⟨w.heap.size, 0, none⟩ = some (.pointer (some ⟨a, 0, none⟩)) ∧ wr.cell? ⟨w.heap.size, 1, none⟩ = some (.int .i64 0) ∧ wr.cell? ⟨w.heap.size, 2, none⟩ = some (.func (.func 76) #[] #[])) ∧
    Hid (Calls Try.prog 51 #[stk8 a, .slice Ap k cp, .pointer (some ⟨w.heap.size + 1, 0, none⟩)] wr fun e w1 => ∃ v, e = .returned v ∧ (v = .nilFunc ∨ ∃ f cap, v = .func (.func f) #[] cap) ∧
      Hid (Calls Try.prog 37 #[v] w1 fun e w2 => ∃ tb, e = .returned (.pointer (some ⟨tb, 0, none⟩)) ∧
        Hid (Calls Try.prog 45 #[.pointer (some ⟨tb, 0, none⟩), .int .i64 200] w2 fun e w3 => e = .returned (.bool true) ∧
          (w3.cell? ⟨w.heap.size, 0, none⟩ = some (.pointer (some ⟨a, 0, none⟩)) ∧ w3.cell? ⟨w.heap.size, 1, none⟩ = some (.int .i64 0) ∧ w3.cell? ⟨w.heap.size, 2, none⟩ = some (.func (.func 76) #[] #[])) ∧
          Hid (Calls Try.prog 54 #[stk8 a] w3 fun e w4 => ∃ A2 c2, e = .returned (.slice A2 k c2) ∧ Hid (Mid a b B w.heap.size k 0 (.slice none 0 0) (.slice none 0 0) w0 w4))))) := by
  obtain ⟨p1, p2, hG⟩ := grp_two (m := 1000 + 3 * k) (n := 2000 + 2 * (3 * k)) hk hA (by omega) h0 hB h
  have hz : (some ⟨w.heap.size, 0, none⟩, stkcells a) ∈ [(some ⟨w.heap.size, 0, none⟩, stkcells a), (Ap, List.replicate k (Value.bool false))] := List.mem_cons_self
  refine ⟨⟨hG.lie0 hz (i := 0) rfl, hG.lie0 hz (i := 1) rfl, hG.lie0 hz (i := 2) rfl⟩, ?_⟩
  show Calls _ _ _ _ _
  have hx : ([x1 k] : List W8)[0]? = some (x1 k) := rfl
  unfold maxLen at p2
  refine (Grp.code8 (τ := ⟨0, List.replicate (1 + k) 0, [], [x1 k]⟩) hG (j := 0) (x := x1 k) (l := List.replicate k false) rfl hx (by show k = _; simp) p1 (by omega) (by simp)).mono ?_
  rintro e w1 ⟨v, kk, τ1, rfl, hv, he, HG2, hs1⟩
  refine ⟨v, rfl, hv, ?_⟩
  show Calls _ _ _ _ _
  refine (HG2.out.new_c List.mem_cons_self).mono ?_
  rintro e w2 ⟨rfl, hm2, hsz2, HG3⟩
  refine ⟨_, rfl, ?_⟩
  show Calls _ _ _ _ _
  obtain ⟨t, τ2, hc⟩ := solo (a := a) (b := b) (gb := fun _ => 0) 0 0 0 (List.replicate k false) [kk] { (⟨0, List.replicate (1 + k) 0, [], [x1 k]⟩ : St (List W8)) with steps := τ1.steps ++ [0] } [] (x1 k) kk { τ1 with steps := τ1.steps ++ [0] } (enter_steps _ (τ1.steps ++ [0]) he) rfl (x1_fit hk) hx
  have hfew := hc.few
  rw [List.length_replicate] at hfew
  refine (Grp.finish_way (m := 1000) (n := 2000) (N := 3 * k) (p := 0) (M := Eight.mk a b (fun _ => 0) [kk] { τ1 with steps := τ1.steps ++ [0] }) HG3.out rfl hc.way over_done hfew 200 (by omega)).mono ?_
  rintro e w3 ⟨rfl, HG4, hs3⟩
  have hz4 := hz
  refine ⟨rfl, ⟨HG4.out.lie0 hz (i := 0) rfl, HG4.out.lie0 hz (i := 1) rfl, HG4.out.lie0 hz (i := 2) rfl⟩, ?_⟩
  show Calls _ _ _ _ _
  have hfold := puts_fold k [] (nums k) [] (x1 k) (nums_len k)
  rw [List.nil_append, List.append_nil] at hfold
  have hx1 : ({ x1 k with hands := nums k } : W8) = x1 k := rfl
  rw [hx1] at hfold
  have hfit := hc.fit
  have hr := hc.r
  rw [hfold] at hfit hr
  refine (List_c HG4.out.ar.1 HG4.out.ar.2.1 hfit.stk).mono ?_
  rintro e w4 ⟨A2, c2, rfl, hrow, hm4⟩
  refine ⟨A2, c2, by rw [nums_len], ?_⟩
  show Mid _ _ _ _ _ _ _ _ _ _
  have hG5 := HG4.out.later hm4
  have har := HG4.out.ar
  have hr1 : τ2.r = [{ x1 k with hands := [] }] := hr
  have hx00 : (List.replicate (1 + k) (0 : Int)).getD 0 0 = 0 := by
    rw [List.getD_eq_getElem?_getD, List.getElem?_replicate, if_pos (by omega)]
    rfl
  have hall0 : All8 0 [kk] { τ1 with steps := τ1.steps ++ [0] } := by
    obtain ⟨k', x', q1, q2, q3, q4, q5, q6, q7, q8⟩ := enter_any (j := 0) (x := x1 k) (List.replicate k false) (σ := ⟨0, List.replicate (1 + k) 0, [], [x1 k]⟩) hx ⟨fun i hi => by have := nums_rng hi; omega, rfl, by simp [x1, nums_len]; omega⟩
    have q9 := Option.some.inj (q1.symm.trans he)
    simp only [Prod.mk.injEq] at q9
    obtain ⟨rfl, rfl⟩ := q9
    refine ⟨rfl, by simp; omega, fun p k2 y h1 h2 => ?_, fun k2 h2 => ?_⟩
    · have hp := (List.getElem?_eq_some_iff.1 h1).1
      simp at hp
      subst hp
      simp at h1 h2
      subst h1 h2
      exact ⟨q2, q3⟩
    · simp at h2
      subst h2
      simp at q7
      omega
  have hct : 0 ≤ τ2.xs.getD 0 0 ∧ ct (τ2.xs.getD 0 0) ≤ 36 := by
    obtain ⟨ks', τ', e1, _, _, h3⟩ := hall0.fin (a := a) (b := b) (gb := fun _ => 0) 0 t
    have e2 := hc.way.fin.1
    have e3 : Eight.mk a b (fun _ => 0) ks' τ' = Eight.mk a b (fun _ => 0) ([kk].set 0 .done) τ2 := e1.symm.trans e2
    obtain rfl : τ' = τ2 := congrArg Mach.σ e3
    have hx01 : τ1.xs.getD 0 0 = 0 := by
      obtain ⟨k', x', q1, _⟩ := enter_any (j := 0) (x := x1 k) (List.replicate k false) (σ := ⟨0, List.replicate (1 + k) 0, [], [x1 k]⟩) hx ⟨fun i hi => by have := nums_rng hi; omega, rfl, by simp [x1, nums_len]; omega⟩
      have q9 := Option.some.inj (q1.symm.trans he)
      simp only [Prod.mk.injEq] at q9
      rw [← q9.2]
      exact hx00
    have h4 := h3 (by show 0 ≤ τ1.xs.getD 0 0; omega)
    have h5 : ct (({ τ1 with steps := τ1.steps ++ [0] } : St (List W8)).xs.getD 0 0) = 0 := by
      show ct (τ1.xs.getD 0 0) = 0
      rw [hx01]
      rfl
    omega
  obtain ⟨q, hq⟩ : ∃ q, τ2.steps = [q] := by
    have h1 := hG5.lens.2
    have h2 : τ2.steps.length = 1 := h1
    exact List.length_eq_one_iff.1 h2
  have hG6 : Grp (S8 a b fun _ => 0) B 1000 2000 { ks := K8.done :: [], σ := { τ2 with steps := q :: [] } } [w1.heap.size] [w.heap.size + 1] [] [(some ⟨w.heap.size, 0, none⟩, stkcells a), (Ap, List.replicate k (Value.bool false))] (fun _ => False) w0 w4 := by
    rw [← hq]
    exact hG5.drop (fun c hc => by simp at hc) (fun z hz => hz)
  have hG7 := hG6.forget
  have hG8 := hG7.rescr (X := fun q => (Value.slice none 0 0).ownBlock = some q ∨ (Value.slice none 0 0).ownBlock = some q) (Wrote.of_made (Made.refl _)) (fun q hq => by simp [Value.ownBlock] at hq)
  refine ⟨⟨[], { τ2 with steps := [] }, [], [], _, nums k, hG8, ⟨⟨by show 0 + 1 = τ2.r.length; rw [hr1]; rfl, by show 0 < τ2.xs.length; rw [hc.len]; simp; omega, fun p k2 y h1 => by simp at h1, fun k2 h2 => by simp at h2⟩, hfit.stk, by show τ2.xs.length = _; rw [hc.len]; simp, ?_, ⟨hct.1, by show ct (τ2.xs.getD 0 0) + _ < _; omega⟩, fun p k2 h1 => by simp at h1, fun p y hy => ?_, fun y hy => by
      have hy' : τ2.r[0]? = some y := hy
      rw [hr1] at hy'
      simp at hy'
      rw [← hy']⟩, rfl, rfl, by simp, World.ownsRow_nil _ _ _ _, World.ownsRow_nil _ _ _ _⟩⟩
  · show (nums k ++ allHands τ2.r).Perm (nums k)
    rw [hr1]
    simp [allHands]
  · have hy' : τ2.r[p]? = some y := hy
    rw [hr1] at hy'
    have hp := (List.getElem?_eq_some_iff.1 hy').1
    simp at hp
    subst hp
    simp at hy'
    rw [← hy']
    rfl
end Go.Proofs.Ythllplocbciepaa.Kod.Eight

/- Layer 8, StackMany: tasks are made; steps are picked. -/
namespace Go.Proofs.Ythllplocbciepaa.Kod.Eight
open Go.RowKit Go.Proofs.Ythllplocbciepaa Go.Proofs.Ythllplocbciepaa.Cell Go.Proofs.Ythllplocbciepaa.Wd
set_option linter.unusedVariables false
set_option linter.unusedSimpArgs false

/-- A worker who has nothing. -/
def xw : W8 := ⟨[], none, false, false, false⟩
theorem hands_snoc (r : List W8) (x : W8) : allHands (r ++ [x]) = allHands r ++ x.hands := by simp [allHands]
theorem Many.add {K N : Nat} {s : List Int} {ks : List K8} {τ τ' : St (List W8)} {x' : W8} {k' : K8} (h : Many K N s ks τ) (hr : τ'.r = τ.r ++ [x']) (hxs : τ'.xs = τ.xs) (ht : Tk (ks.length + 1) x' k') (hf : Fine x' (acts k')) (ha : acts k' ≤ 12) (hfr : Fr k') (hh : x'.hands = []) (hw : x'.wrong = false) : Many K N s (ks ++ [k']) τ' := by
  have hlen := h.all.len
  have at2 : ∀ {q : Nat} {y : W8}, (τ.r ++ [x'])[q]? = some y → τ.r[q]? = some y ∨ (q = τ.r.length ∧ y = x') := by
    intro q y hy
    have hq := (List.getElem?_eq_some_iff.1 hy).1
    simp at hq
    by_cases h2 : q < τ.r.length
    · rw [List.getElem?_append_left h2] at hy
      exact Or.inl hy
    · obtain rfl : q = τ.r.length := by omega
      simp at hy
      exact Or.inr ⟨rfl, hy.symm⟩
  refine ⟨⟨?_, ?_, fun p k y h1 h2 => ?_, fun k h1 => ?_⟩, ?_, ?_, ?_, ?_, fun p k h1 => ?_, fun p y h1 => ?_, fun y hy => by rw [hr, List.getElem?_append_left (by omega)] at hy; exact h.fst y hy⟩
  · rw [hr]
    simp
    omega
  · rw [hxs]
    exact h.all.pos
  · rw [hr] at h2
    by_cases hp : p < ks.length
    · rw [List.getElem?_append_left hp] at h1
      rw [List.getElem?_append_left (by omega)] at h2
      exact h.all.tk p k y h1 h2
    · have hp2 := (List.getElem?_eq_some_iff.1 h1).1
      simp at hp2
      obtain rfl : p = ks.length := by omega
      simp at h1
      rw [hlen] at h2
      simp at h2
      subst h1 h2
      exact ⟨ht, hf⟩
  · rcases List.mem_append.1 h1 with h1 | h1
    · exact h.all.few k h1
    · simp at h1
      subst h1
      exact ha
  · rw [hxs]
    exact h.stk
  · rw [hxs]
    exact h.len
  · rw [hr, hands_snoc, hh, List.append_nil]
    exact h.perm
  · rw [hxs]
    exact h.cnt
  · rw [hxs]
    by_cases hp : p < ks.length
    · rw [List.getElem?_append_left hp] at h1
      exact h.ok p k h1
    · have hp2 := (List.getElem?_eq_some_iff.1 h1).1
      simp at hp2
      obtain rfl : p = ks.length := by omega
      simp at h1
      subst h1
      exact hfr.okk
  · rw [hr] at h1
    rcases at2 h1 with h1 | ⟨_, rfl⟩
    · exact h.right p y h1
    · exact hw
theorem Mid.stk {a b B g k i : Nat} {tv wv : Value} {w0 wr : World} (h : Mid a b B g k i tv wv w0 wr) : wr.cell? ⟨g, 0, none⟩ = some (.pointer (some ⟨a, 0, none⟩)) ∧ wr.cell? ⟨g, 1, none⟩ = some (.int .i64 0) ∧ wr.cell? ⟨g, 2, none⟩ = some (.func (.func 76) #[] #[]) := by
  obtain ⟨ks, τ, ts, gh, Z, s, hG, hm, hi, hgh, hz, htv, hwv⟩ := h.ex
  exact ⟨hG.lie0 hz (i := 0) rfl, hG.lie0 hz (i := 1) rfl, hG.lie0 hz (i := 2) rfl⟩
theorem Mid.bel {a b B g k i : Nat} {tv wv : Value} {w0 wr : World} (h : Mid a b B g k i tv wv w0 wr) : Below B w0 wr := by
  obtain ⟨ks, τ, ts, gh, Z, s, hG, hm, hi, hgh, hz, htv, hwv⟩ := h.ex
  exact hG.bel
/-- A worker is made, and known to the law; its task is not made yet. -/
structure Mid2 (a b B g k i wb : Nat) (tv wv : Value) (w0 wr : World) : Prop where
  ex : ∃ ks τ ts gh Z s, Grp (S8 a b fun _ => 0) B 1000 2000 (mk a b (fun _ => 0) ks { τ with r := τ.r ++ [xw] }) ts ((g + 1) :: (gh ++ [wb])) [] Z (fun q => tv.ownBlock = some q ∨ wv.ownBlock = some q) w0 wr ∧ Many k 1000 s ks τ ∧ ks.length = i ∧ gh.length = i ∧ (some ⟨g, 0, none⟩, stkcells a) ∈ Z ∧ wr.ownsRow B 57 1 tv i (ptrs ts) ∧ wr.ownsRow B 85 1 wv (i + 1) (ptrw (gh ++ [wb]))
theorem Mid2.stk {a b B g k i wb : Nat} {tv wv : Value} {w0 wr : World} (h : Mid2 a b B g k i wb tv wv w0 wr) : wr.cell? ⟨g, 0, none⟩ = some (.pointer (some ⟨a, 0, none⟩)) ∧ wr.cell? ⟨g, 1, none⟩ = some (.int .i64 0) ∧ wr.cell? ⟨g, 2, none⟩ = some (.func (.func 76) #[] #[]) := by
  obtain ⟨ks, τ, ts, gh, Z, s, hG, hm, hi, hgh, hz, htv, hwv⟩ := h.ex
  exact ⟨hG.lie0 hz (i := 0) rfl, hG.lie0 hz (i := 1) rfl, hG.lie0 hz (i := 2) rfl⟩
theorem rowk_later {w w' : World} {B n : Nat} {v : Value} {e : TypeId} {xs : List Value} (h : w.ownsRow B e 1 v n xs) (hs : ∀ k : Nat, v.ownBlock = some k → w'.heap[k]? = w.heap[k]?) : w'.ownsRow B e 1 v n xs := rowb_later h hs
theorem Mid.work {a b B g k i : Nat} {tv wv : Value} {w0 wr w' : World} (h : Mid a b B g k i tv wv w0 wr) (hw' : w' = wr.alloc (.cells #[.slice none 0 0, .pointer none, .bool false, .bool false, .bool false] 88)) :
    B ≤ w'.heap.size ∧ ∃ ps, Hid (w'.ownsRow B 85 1 wv i ps) ∧ Hid (∀ (o : Obj) (w5 : World) (wv' : Value), w5.ownsRow B 85 1 wv' (i + 1) (ps ++ [.pointer (some ⟨wr.heap.size, 0, none⟩)]) → (w'.alloc o).grownBy w5 wv.ownBlock → (wv'.ownBlock = wv.ownBlock ∨ wv'.ownBlock = some (w'.alloc o).heap.size) → Mid2 a b B g k i wr.heap.size tv wv' w0 w5) := by
  obtain ⟨ks, τ, ts, gh, Z, s, hG, hm, hi, hgh, hz, htv, hwv⟩ := h.ex
  have hma : Made wr w' := by rw [hw']; exact (Made.refl _).alloc (Nat.le_refl _) _
  have hG1 := Grp.worker8 (x := xw) (hv := .slice none 0 0) hG hma (Nat.le_refl _) (by rw [hw']; exact heap_alloc_new _ _) (World.ownsRow_nil _ _ _ _) (fun i hi => by simp [xw] at hi) rfl
  have hs1 := hG.same_made hma
  have htv1 := hs1.row (fun k hk => Or.inl hk) htv
  have hwv1 := hs1.row (fun k hk => Or.inr hk) hwv
  refine ⟨hG1.bel_le, _, hwv1, ?_⟩
  show ∀ (o : Obj) (w5 : World) (wv' : Value), _
  intro o w5 wv' hown hgrow hat
  have hmb : Made w' (w'.alloc o) := (Made.refl _).alloc (Nat.le_refl _) _
  have hsz : w'.heap.size ≤ (w'.alloc o).heap.size := by simp only [World.size_alloc]; omega
  have htl : ∀ q, tv.ownBlock = some q → w5.heap[q]? = w'.heap[q]? := fun q hq => by
    obtain ⟨_, cur, hc⟩ := rowb_block htv1 hq
    refine (hgrow.block q (Nat.lt_of_lt_of_le (lt_of_at hc) hsz) (fun e => ?_)).trans (heap_alloc_old _ _ (lt_of_at hc))
    obtain ⟨_, cur2, hc2⟩ := rowb_block hwv1 e.symm
    exact kind_ne hc hc2 (by decide) rfl
  have hG2 := hG1.rescr (X := fun q => tv.ownBlock = some q ∨ wv'.ownBlock = some q) (w' := w5) (((Wrote.of_made hmb).trans (Wrote.of_grown hgrow)).mono (fun q _ hq => Or.inr hq)) (fun q hq => by
    rcases hq with hq | hq
    · refine ⟨Or.inl (Or.inl hq), ?_⟩
      have h1 := (htv1.lt q hq).2
      have h2 := hgrow.size
      omega
    · refine ⟨?_, (hown.lt q hq).2⟩
      rcases hat with hat | hat
      · exact Or.inl (Or.inr (hat.symm.trans hq))
      · right
        have := hat.symm.trans hq
        simp only [World.size_alloc, Option.some.injEq] at this
        omega)
  exact ⟨⟨ks, τ, ts, gh, Z, s, hG2, hm, hi, hgh, hz, rowk_later htv1 htl, by
    have e : ptrw (gh ++ [wr.heap.size]) = ptrw gh ++ [.pointer (some ⟨wr.heap.size, 0, none⟩)] := by simp [ptrw]
    rw [e]
    exact hown⟩⟩
/-- A worker's task is made. -/
theorem Mid2.go {a b B g k i wb N c : Nat} {tv wv : Value} {w0 wr : World} {l : List Bool} {A : Option Addr} (h : Mid2 a b B g k i wb tv wv w0 wr) (hN : Hid (N = l.length)) (hNc : N ≤ c) (hc : c ≤ 9223372036854775807) (hl : RdV w0 B A (l.map Value.bool)) (h12 : l.length ≤ 12) :
    Calls Try.prog 51 #[stk8 a, .slice A N c, .pointer (some ⟨wb, 0, none⟩)] wr fun e w1 => ∃ v, e = .returned v ∧ (v = .nilFunc ∨ ∃ f cap, v = .func (.func f) #[] cap) ∧
      Hid (Calls Try.prog 37 #[v] w1 fun e w2 => ∃ tb ps, e = .returned (.pointer (some ⟨tb, 0, none⟩)) ∧ B ≤ w2.heap.size ∧ Hid (w2.ownsRow B 57 1 tv i ps) ∧
        Hid (∀ (o : Obj) (w5 : World) (tv' : Value), w5.ownsRow B 57 1 tv' (i + 1) (ps ++ [.pointer (some ⟨tb, 0, none⟩)]) → (w2.alloc o).grownBy w5 tv.ownBlock → (tv'.ownBlock = tv.ownBlock ∨ tv'.ownBlock = some (w2.alloc o).heap.size) → Mid a b B g k (i + 1) tv' wv w0 w5)) := by
  obtain ⟨ks, τ, ts, gh, Z, s, hG, hm, hi, hgh, hz, htv, hwv⟩ := h.ex
  have hG1 := hG.given (A := A) (vs := l.map Value.bool) hl
  have hlen := hm.all.len
  have hx : (τ.r ++ [xw])[i + 1]? = some xw := by
    have e : i + 1 = τ.r.length := by omega
    rw [e]
    simp
  refine (Grp.code8 (τ := { τ with r := τ.r ++ [xw] }) hG1 (j := i + 1) (wb := wb) (by simp [← hgh]) hx hN hNc hc List.mem_cons_self).mono ?_
  rintro e w1 ⟨v, kk, τ1, rfl, hv, he, HG2, hs1⟩
  refine ⟨v, rfl, hv, ?_⟩
  show Calls _ _ _ _ _
  refine (HG2.out.new_c List.mem_cons_self).mono ?_
  rintro e w2 ⟨rfl, hm2, hsz2, HG3⟩
  have hs2 := hs1.trans (HG2.out.same_made hm2)
  have htv2 := hs2.row (fun k hk => Or.inl hk) htv
  have hwv2 := hs2.row (fun k hk => Or.inr hk) hwv
  refine ⟨_, _, rfl, HG3.out.bel_le, htv2, ?_⟩
  show ∀ (o : Obj) (w5 : World) (tv' : Value), _
  intro o w5 tv' hown hgrow hat
  obtain ⟨k', x', q1, q2, q3, q4, q5, q6, q7, q8⟩ := enter_any (j := i + 1) (σ := { τ with r := τ.r ++ [xw] }) l hx ⟨fun j hj => by simp [xw] at hj, rfl, by simp [xw]; omega⟩
  have he' := Option.some.inj (q1.symm.trans he)
  simp only [Prod.mk.injEq] at he'
  obtain ⟨rfl, rfl⟩ := he'
  have hset : (τ.r ++ [xw]).set (i + 1) x' = τ.r ++ [x'] := by
    have e : i + 1 = τ.r.length := by omega
    rw [e]
    simp
  have hmb : Made w2 (w2.alloc o) := (Made.refl _).alloc (Nat.le_refl _) _
  have hsz : w2.heap.size ≤ (w2.alloc o).heap.size := by simp only [World.size_alloc]; omega
  have hwl : ∀ q, wv.ownBlock = some q → w5.heap[q]? = w2.heap[q]? := fun q hq => by
    obtain ⟨_, cur, hc⟩ := rowb_block hwv2 hq
    refine (hgrow.block q (Nat.lt_of_lt_of_le (lt_of_at hc) hsz) (fun e => ?_)).trans (heap_alloc_old _ _ (lt_of_at hc))
    obtain ⟨_, cur2, hc2⟩ := rowb_block htv2 e.symm
    exact kind_ne hc hc2 (by decide) rfl
  have hG4 := (HG3.out.drop (C' := []) (Z' := Z) (fun c hc => by simp at hc) (fun z hz' => List.mem_cons_of_mem _ hz')).rescr (X := fun q => tv'.ownBlock = some q ∨ wv.ownBlock = some q) (w' := w5) (((Wrote.of_made hmb).trans (Wrote.of_grown hgrow)).mono (fun q _ hq => Or.inl hq)) (fun q hq => by
    rcases hq with hq | hq
    · refine ⟨?_, (hown.lt q hq).2⟩
      rcases hat with hat | hat
      · exact Or.inl (Or.inl (hat.symm.trans hq))
      · right
        have := hat.symm.trans hq
        simp only [World.size_alloc, Option.some.injEq] at this
        omega
    · refine ⟨Or.inl (Or.inr hq), ?_⟩
      have h1 := (hwv2.lt q hq).2
      have h2 := hgrow.size
      omega)
  refine ⟨⟨ks ++ [k'], _, _, gh ++ [wb], Z, s, hG4, hm.add (x' := x') hset rfl (by rw [hi]; exact q2) q3 (by omega) q8 q4 (by rw [q5]; rfl), by simp [hi], by simp [hgh], hz, ?_, rowk_later hwv2 hwl⟩⟩
  rw [← ptrs_snoc]
  exact hown
end Go.Proofs.Ythllplocbciepaa.Kod.Eight

/- Layer 8, StackMany: between two picks. -/
namespace Go.Proofs.Ythllplocbciepaa.Kod.Eight
open Go.RowKit Go.Proofs.Ythllplocbciepaa Go.Proofs.Ythllplocbciepaa.Cell Go.Proofs.Ythllplocbciepaa.Wd
set_option linter.unusedVariables false
set_option linter.unusedSimpArgs false

theorem endl_at : ∀ (n q t : Nat), q < n → t < 78 → (endl n)[78 * q + t]? = some (q : Int)
  | 0, q, t, h, _ => by omega
  | n + 1, q, t, h, ht => by
    unfold endl
    by_cases hq : q < n
    · rw [List.getElem?_append_left (by rw [endl_len]; omega)]
      exact endl_at n q t hq ht
    · obtain rfl : q = n := by omega
      rw [List.getElem?_append_right (by rw [endl_len]; omega), endl_len, List.getElem?_replicate, if_pos (by omega)]
section
variable {a b : Nat} {gb : Nat → Nat}
theorem step_other {S : Sys} {M : Mach S} {p q : Nat} (h : q ≠ p) : (M.step p).ks[q]? = M.ks[q]? := by
  unfold Mach.step
  split
  · rfl
  · split
    · rfl
    · split
      · rfl
      · simp only [List.getElem?_set_ne (Ne.symm h)]
theorem over_same {ks ks' : List K8} {τ τ' : St (List W8)} {q : Nat} (h : ks'[q]? = ks[q]?) : (Eight.mk a b gb ks' τ').over q = (Eight.mk a b gb ks τ).over q := by
  unfold Mach.over
  have e : (Eight.mk a b gb ks' τ').ks[q]? = (Eight.mk a b gb ks τ).ks[q]? := h
  rw [e]
/-- How near the tasks are to their ends, behind r picks, of which P were handed in. -/
def Prog (a b P n r : Nat) (ks : List K8) (τ : St (List W8)) : Prop := ∀ q, q < n → P + 78 * q ≤ r → (Eight.mk a b (fun _ => 0) ks τ).over q = true ∨ costAt ks τ.xs q + min 78 (r - (P + 78 * q)) ≤ 78
/-- A pick. -/
theorem Many.pick {K N n r : Nat} {s : List Int} {ks : List K8} {τ : St (List W8)} {ps : List Int} (h : Many K (N + 1) s ks τ) (hK : K ≤ 100) (hn : ks.length = n) (hb : ∀ (q : Nat) (x : W8), τ.r[q + 1]? = some x → s = [] → x.bare = true) (hp : Prog a b ps.length n r ks τ) {p : Int} (hr : (ps ++ endl n)[r]? = some p) :
    ∃ s' ks' τ', ((Eight.mk a b (fun _ => 0) ks τ).run [p]).1 = Eight.mk a b (fun _ => 0) ks' τ' ∧ Many K N s' ks' τ' ∧ τ'.c ≤ τ.c + 1 ∧ ks'.length = n ∧ Prog a b ps.length n (r + 1) ks' τ' := by
  have e : ((Eight.mk a b (fun _ => 0) ks τ).run [p]).1 = (Mach.pick (Eight.mk a b (fun _ => 0) ks τ, 0) p).1 := rfl
  have hcur : ∀ q, q < n → ps.length + 78 * q ≤ r → r < ps.length + 78 * (q + 1) → p = (q : Int) := by
    intro q hq h1 h2
    have h3 := endl_at n q (r - (ps.length + 78 * q)) hq (by omega)
    rw [List.getElem?_append_right (by omega), show r - ps.length = 78 * q + (r - (ps.length + 78 * q)) by omega, h3] at hr
    exact (Option.some.inj hr).symm
  cases hm : (Eight.mk a b (fun _ => 0) ks τ).may p with
  | false =>
    refine ⟨s, ks, τ, ?_, h.lower (by omega), by omega, hn, fun q hq hqr => ?_⟩
    · rw [e]
      unfold Mach.pick
      rw [if_neg (by rw [hm]; simp)]
    · by_cases hqr2 : ps.length + 78 * q ≤ r
      · rcases hp q hq hqr2 with h1 | h1
        · exact Or.inl h1
        · by_cases h2 : r < ps.length + 78 * (q + 1)
          · left
            have h3 := hcur q hq hqr2 h2
            subst h3
            unfold Mach.may at hm
            have hl : ((q : Int) < ((Eight.mk a b (fun _ => 0) ks τ).ks.length : Int)) := by
              show (q : Int) < (ks.length : Int)
              omega
            simp only [Int.toNat_natCast] at hm
            simpa [hl] using hm
          · right
            omega
      · right
        have := h.all.cost_le q
        omega
  | true =>
    have hm2 := hm
    unfold Mach.may at hm2
    simp only [Bool.and_eq_true, decide_eq_true_eq, Bool.not_eq_true'] at hm2
    obtain ⟨⟨h0, h1⟩, ho⟩ := hm2
    obtain ⟨pn, rfl⟩ := Int.eq_ofNat_of_zero_le h0
    simp only [Int.toNat_natCast] at ho
    obtain ⟨s', ks', τ', e1, h2, h3⟩ := h.step (a := a) (b := b) (gb := fun _ => 0) hK pn hb ho
    obtain ⟨_, ks2, τ2, e2, _, h5, _⟩ := h.all.step (a := a) (b := b) (gb := fun _ => 0) pn
    have e3 := e1.symm.trans e2
    obtain rfl : ks' = ks2 := congrArg Mach.ks e3
    obtain rfl : τ' = τ2 := congrArg Mach.σ e3
    have hlen : ks'.length = n := by
      have := Mach.step_len (Eight.mk a b (fun _ => 0) ks τ) pn
      rw [e1] at this
      rw [← hn]
      exact this
    refine ⟨s', ks', τ', ?_, h2, h3, hlen, fun q hq hqr => ?_⟩
    · rw [e]
      unfold Mach.pick
      rw [if_pos hm]
      exact e1
    · by_cases hqp : q = pn
      · subst hqp
        by_cases hqr2 : ps.length + 78 * q ≤ r
        · rcases hp q hq hqr2 with h6 | h6
          · rw [ho] at h6
            simp at h6
          · right
            have := h5 ho
            omega
        · right
          have := h2.all.cost_le q
          omega
      · have hsame : ks'[q]? = ks[q]? := by
          have := step_other (M := Eight.mk a b (fun _ => 0) ks τ) hqp
          rw [e1] at this
          exact this
        by_cases hqr2 : ps.length + 78 * q ≤ r
        · by_cases h7 : r < ps.length + 78 * (q + 1)
          · exact absurd (hcur q hq hqr2 h7) (by omega)
          · left
            have hov : (Eight.mk a b (fun _ => 0) ks τ).over q = true := by
              rcases hp q hq hqr2 with h6 | h6
              · exact h6
              · cases ho2 : (Eight.mk a b (fun _ => 0) ks τ).over q with
                | true => rfl
                | false =>
                  have := cost_live ho2
                  omega
            rw [over_same hsame]
            exact hov
        · right
          have := h2.all.cost_le q
          omega
end
/-- Between two picks. -/
structure Pk (a b B g k n : Nat) (ps : List Int) (r : Nat) (At Aw Aa : Option Addr) (w0 wr : World) : Prop where
  ex : ∃ ks τ ts gh Z s, Grp (S8 a b fun _ => 0) B (1000 - r) (2000 - 2 * r) (mk a b (fun _ => 0) ks τ) ts ((g + 1) :: gh) [] Z (fun _ => False) w0 wr ∧ Many k (1000 - r) s ks τ ∧ ks.length = n ∧ gh.length = n ∧ (some ⟨g, 0, none⟩, stkcells a) ∈ Z ∧ (At, ptrs ts) ∈ Z ∧ (Aw, ptrw gh) ∈ Z ∧ (Aa, (ps ++ endl n).map (Value.int .i64)) ∈ Z ∧ Prog a b ps.length n r ks τ
/-- Where the stack lies. -/
def StkAt (a g : Nat) (w : World) : Prop := w.cell? ⟨g, 0, none⟩ = some (.pointer (some ⟨a, 0, none⟩)) ∧ w.cell? ⟨g, 1, none⟩ = some (.int .i64 0) ∧ w.cell? ⟨g, 2, none⟩ = some (.func (.func 76) #[] #[])
theorem stk_at {a b B m n g : Nat} {M : Mach (S8 a b fun _ => 0)} {ts gh : List Nat} {C : List (K8 × Value)} {Z : List (Option Addr × List Value)} {own : Nat → Prop} {w0 wr : World} (h : Grp (S8 a b fun _ => 0) B m n M ts gh C Z own w0 wr) (hz : (some ⟨g, 0, none⟩, stkcells a) ∈ Z) : StkAt a g wr :=
  ⟨h.lie0 hz (i := 0) rfl, h.lie0 hz (i := 1) rfl, h.lie0 hz (i := 2) rfl⟩
theorem Pk.bel {a b B g k n r : Nat} {ps : List Int} {At Aw Aa : Option Addr} {w0 wr : World} (h : Pk a b B g k n ps r At Aw Aa w0 wr) : Below B w0 wr := by
  obtain ⟨ks, τ, ts, gh, Z, s, hG, hm, hi, hgh, hz, hzt, hzw, hza, hp⟩ := h.ex
  exact hG.bel
theorem Pk.stk {a b B g k n r : Nat} {ps : List Int} {At Aw Aa : Option Addr} {w0 wr : World} (h : Pk a b B g k n ps r At Aw Aa w0 wr) : StkAt a g wr := by
  obtain ⟨ks, τ, ts, gh, Z, s, hG, hm, hi, hgh, hz, hzt, hzw, hza, hp⟩ := h.ex
  exact stk_at hG hz
/-- A pick, with what is asked ahead of it and behind it. -/
theorem Pk.go {a b B g k n r N c N2 c2 : Nat} {ps : List Int} {At Aw Aa : Option Addr} {w0 wr : World} {p : Int} (h : Pk a b B g k n ps r At Aw Aa w0 wr) (hk : k ≤ 12) (hn5 : n ≤ 5) (hP : ps.length ≤ 300) (hr : (ps ++ endl n)[r]? = some p) (hN : Hid (N = n)) (hN2 : Hid (N2 = n)) :
    Hid (Calls Try.prog 56 #[stk8 a, .slice Aw N c] wr fun e w1 => e = .returned (.tuple #[]) ∧ StkAt a g w1 ∧ ∃ q : Int, 0 ≤ q ∧ q < 4611686018427387904 ∧
      Hid (Calls Try.prog 43 #[.pointer (some ⟨a, 0, none⟩)] w1 fun e w2 => e = .returned (.int .i64 q) ∧ w1 = w2) ∧
      Hid (Calls Try.prog 39 #[.slice At N2 c2, .slice (some ⟨w1.heap.size, 0, none⟩) 1 1] (w1.alloc (.cells #[.int .i64 p] 3)) fun e w3 => (∃ z, e = .returned (.int .i64 z)) ∧ StkAt a g w3 ∧ ∃ q2 : Int, 0 ≤ q2 ∧ q2 ≤ q + 1 ∧
        Hid (Calls Try.prog 43 #[.pointer (some ⟨a, 0, none⟩)] w3 fun e w4 => e = .returned (.int .i64 q2) ∧ w3 = w4) ∧
        Hid (Calls Try.prog 56 #[stk8 a, .slice Aw N c] w3 fun e w5 => e = .returned (.tuple #[]) ∧ Hid (Pk a b B g k n ps (r + 1) At Aw Aa w0 w5)))) := by
  obtain ⟨ks, τ, ts, gh, Z, s, hG, hm, hi, hgh, hz, hzt, hzw, hza, hp⟩ := h.ex
  have hrl : r < 690 := by
    have := (List.getElem?_eq_some_iff.1 hr).1
    simp [endl_len] at this
    omega
  have hrlen : τ.r.length = gh.length + 1 := by have := hm.all.len; omega
  show Calls _ _ _ _ _
  refine (bare_c hG hm hzw (by show N = gh.length; rw [hgh]; exact hN.out) (by have := hN.out; omega) hrlen).mono ?_
  rintro e w1 ⟨rfl, τ1, HG1, HM1, hb1, hs1, hr1, hc1, hx1⟩
  have har := HG1.out.ar
  refine ⟨rfl, stk_at HG1.out hz, τ1.c, har.1.c0, by have h9 : τ1.c + ((2000 - 2 * r : Nat) : Int) < 4611686018427387904 := har.2.2.2; omega, HG1.out.count_c, ?_⟩
  show Calls _ _ _ _ _
  have hma : Made w1 (w1.alloc (.cells #[.int .i64 p] 3)) := (Made.refl _).alloc (Nat.le_refl _) _
  obtain ⟨A3, c3, e3, g1, g2, g3, hG2⟩ := HG1.out.note hma (World.ownsRow_lit (e := 3) (base := w1.heap.size) (size := 1) w1 #[.int .i64 p] 1 (Nat.le_refl _) (by unfold maxLen; omega) (by simp))
  obtain ⟨rfl, -, rfl⟩ : some ⟨w1.heap.size, 0, none⟩ = A3 ∧ 1 = 1 ∧ 1 = c3 := by simpa using e3
  have hp1 : Prog a b ps.length n r ks τ1 := fun q hq hqr => by
    rcases hp q hq hqr with h1 | h1
    · exact Or.inl h1
    · right
      rw [hx1]
      exact h1
  have hmN : Many k ((1000 - (r + 1)) + 1) s ks τ1 := by rw [show 1000 - (r + 1) + 1 = 1000 - r by omega]; exact HM1.out
  obtain ⟨s', ks', τ', e1, h2, h3, h4, h5⟩ := hmN.pick (a := a) (b := b) (by omega) hi hb1 hp1 hr
  have hlens := hG2.lens
  have hG3 : Grp (S8 a b fun _ => 0) B ((1000 - (r + 1)) + [p].length) ((2000 - 2 * (r + 1)) + 2 * [p].length) (Eight.mk a b (fun _ => 0) ks τ1) ts ((g + 1) :: gh) [] ((some ⟨w1.heap.size, 0, none⟩, [.int .i64 p]) :: Z) (fun _ => False) w0 (w1.alloc (.cells #[.int .i64 p] 3)) := hG2.lower (by simp; omega) (by simp; omega)
  have htl : ts.length = n := by rw [← hi]; exact hlens.1
  refine (hG3.run_c (m := 1000 - (r + 1)) (n := 2000 - 2 * (r + 1)) [p] (by show N2 = ts.length; rw [htl]; exact hN2.out) (Lib.hid rfl) (by have := hN2.out; omega) (List.mem_cons_of_mem _ hzt) List.mem_cons_self (fun q hq j => ?_)).mono ?_
  · obtain rfl : q = 0 := by simp at hq; omega
    exact (HM1.out.all.step (a := a) (b := b) (gb := fun _ => 0) j).1
  rintro e w3 ⟨rfl, HG4, hs4⟩
  have hG4 := HG4.out
  rw [e1] at hG4
  have har4 := hG4.ar
  refine ⟨⟨_, rfl⟩, stk_at hG4 (List.mem_cons_of_mem _ hz), τ'.c, har4.1.c0, h3, hG4.count_c, ?_⟩
  show Calls _ _ _ _ _
  refine (bare_c hG4 h2 (List.mem_cons_of_mem _ hzw) (by show N = gh.length; rw [hgh]; exact hN.out) (by have := hN.out; omega) (by have := h2.all.len; omega)).mono ?_
  rintro e w5 ⟨rfl, τ5, HG5, HM5, hb5, hs5, hr5, hc5, hx5⟩
  refine ⟨rfl, ⟨_, τ5, ts, gh, Z, s', HG5.out.drop (fun c hc => hc) (fun z hz' => List.mem_cons_of_mem _ hz'), HM5.out, h4, hgh, hz, hzt, hzw, hza, fun q hq hqr => ?_⟩⟩
  rcases h5 q hq hqr with h6 | h6
  · exact Or.inl h6
  · right
    rw [hx5]
    exact h6
end Go.Proofs.Ythllplocbciepaa.Kod.Eight

/- Layer 8, StackMany: behind all picks. -/
namespace Go.Proofs.Ythllplocbciepaa.Kod.Eight
open Go.RowKit Go.Proofs.Ythllplocbciepaa Go.Proofs.Ythllplocbciepaa.Cell Go.Proofs.Ythllplocbciepaa.Wd
set_option linter.unusedVariables false
set_option linter.unusedSimpArgs false

/-- All tasks are made; the picks are laid out. -/
theorem Mid.picks {a b B g k n ct cw N c : Nat} {At Aw Aa : Option Addr} {ps : List Int} {w0 wr w' : World} (h : Mid a b B g k n (.slice At n ct) (.slice Aw n cw) w0 wr) (hm : Made wr w') (hrow : w'.ownsRow wr.heap.size 3 1 (.slice Aa N c) N ((ps ++ endl n).map (Value.int .i64))) : Pk a b B g k n ps 0 At Aw Aa w0 w' := by
  obtain ⟨ks, τ, ts, gh, Z, s, hG, hmn, hi, hgh, hz, htv, hwv⟩ := h.ex
  have htw : ∀ q, (Value.slice At n ct).ownBlock = some q → ¬ (Value.slice Aw n cw).ownBlock = some q := fun q h1 h2 => by
    obtain ⟨_, cur, hc⟩ := rowb_block htv h1
    obtain ⟨_, cur2, hc2⟩ := rowb_block hwv h2
    exact kind_ne hc hc2 (by decide) rfl
  obtain ⟨A1, c1, e1, _, _, _, hG1⟩ := hG.seal (X := fun q => (Value.slice Aw n cw).ownBlock = some q) htv (Nat.le_refl _) (fun k hk => Or.inl hk) (fun k hk => Or.inr hk) htw
  obtain ⟨rfl, -, rfl⟩ : At = A1 ∧ n = n ∧ ct = c1 := by simpa using e1
  obtain ⟨A2, c2, e2, _, _, _, hG2⟩ := hG1.seal (X := fun _ => False) hwv (Nat.le_refl _) (fun k hk => hk) (fun k hk => hk.elim) (fun k hk => id)
  obtain ⟨rfl, -, rfl⟩ : Aw = A2 ∧ n = n ∧ cw = c2 := by simpa using e2
  obtain ⟨A3, c3, e3, _, _, _, hG3⟩ := hG2.note hm hrow
  obtain ⟨rfl, -, rfl⟩ : Aa = A3 ∧ N = N ∧ c = c3 := by simpa using e3
  refine ⟨⟨ks, τ, ts, gh, _, s, hG3, hmn, hi, hgh, by simp [hz], by simp, by simp, by simp, fun q hq hqr => ?_⟩⟩
  right
  have := hmn.all.cost_le q
  omega
theorem Pk.at {a b B g k n r : Nat} {ps : List Int} {At Aw Aa : Option Addr} {w0 wr : World} {p : Int} (h : Pk a b B g k n ps r At Aw Aa w0 wr) (hp : (ps ++ endl n)[r]? = some p) : ∃ d : Addr, Aa = some d ∧ wr.cell? (d.add r) = some (.int .i64 p) := by
  obtain ⟨ks, τ, ts, gh, Z, s, hG, hmn, hi, hgh, hz, hzt, hzw, hza, hpr⟩ := h.ex
  exact hG.lie hza r (.int .i64 p) (by
    rw [List.getElem?_map, hp]
    rfl)
/-- All have ended: what they have is gathered, i of them are done. -/
structure Fin (a b B g k n : Nat) (At Aw : Option Addr) (i : Nat) (hv : Value) (H : List Int) (w0 wr : World) : Prop where
  ex : ∃ ks τ ts gh Z s, Grp (S8 a b fun _ => 0) B 200 200 (mk a b (fun _ => 0) ks τ) ts ((g + 1) :: gh) [] Z (fun q => hv.ownBlock = some q) w0 wr ∧ Many k 200 s ks τ ∧ ks.length = n ∧ gh.length = n ∧ (some ⟨g, 0, none⟩, stkcells a) ∈ Z ∧ (At, ptrs ts) ∈ Z ∧ (Aw, ptrw gh) ∈ Z ∧ (∀ q, q < n → (Eight.mk a b (fun _ => 0) ks τ).over q = true) ∧ H = allHands (τ.r.tail.take i) ∧ wr.ownsRow B 3 1 hv H.length (H.map (Value.int .i64))
theorem Pk.fin {a b B g k n r : Nat} {ps : List Int} {At Aw Aa : Option Addr} {w0 wr : World} (h : Pk a b B g k n ps r At Aw Aa w0 wr) (hP : ps.length ≤ 300) (hn : n ≤ 5) (hr : r = ps.length + 78 * n) : Fin a b B g k n At Aw 0 (.slice none 0 0) [] w0 wr := by
  obtain ⟨ks, τ, ts, gh, Z, s, hG, hmn, hi, hgh, hz, hzt, hzw, hza, hpr⟩ := h.ex
  have hG1 := (hG.lower (m' := 200) (n' := 200) (by omega) (by omega)).rescr (X := fun q => (Value.slice none 0 0).ownBlock = some q) (Wrote.of_made (Made.refl _)) (fun q hq => by simp [Value.ownBlock] at hq)
  refine ⟨⟨ks, τ, ts, gh, Z, s, hG1, hmn.lower (by omega), hi, hgh, hz, hzt, hzw, fun q hq => ?_, by simp [allHands], World.ownsRow_nil _ _ _ _⟩⟩
  rcases hpr q hq (by omega) with h1 | h1
  · exact h1
  · cases ho : (Eight.mk a b (fun _ => 0) ks τ).over q with
    | true => rfl
    | false =>
      have := cost_live ho
      omega
theorem allHands_tail {r : List W8} (h : ∀ x, r[0]? = some x → x.hands = []) : allHands r = allHands r.tail := by
  cases r with
  | nil => rfl
  | cons x t =>
    show x.hands ++ allHands t = allHands t
    rw [h x rfl, List.nil_append]
theorem hands_take {r : List W8} {i : Nat} {x : W8} (h : r[i]? = some x) : allHands (r.take (i + 1)) = allHands (r.take i) ++ x.hands := by
  obtain ⟨h1, h2⟩ := List.getElem?_eq_some_iff.1 h
  rw [List.take_succ_eq_append_getElem h1, hands_snoc, h2]
theorem hands_le (r : List W8) (i : Nat) : (allHands (r.take i)).length ≤ (allHands r).length := by
  have : allHands r = allHands (r.take i) ++ allHands (r.drop i) := by
    have e : r = r.take i ++ r.drop i := (List.take_append_drop i r).symm
    have key : ∀ u v : List W8, allHands (u ++ v) = allHands u ++ allHands v := fun u v => by simp [allHands]
    rw [← key, ← e]
  rw [this, List.length_append]
  omega
theorem Fin.bel {a b B g k n i : Nat} {At Aw : Option Addr} {hv : Value} {H : List Int} {w0 wr : World} (h : Fin a b B g k n At Aw i hv H w0 wr) : Below B w0 wr := by
  obtain ⟨ks, τ, ts, gh, Z, s, hG, hmn, hi, hgh, hz, hzt, hzw, ho, hH, hrow⟩ := h.ex
  exact hG.bel
theorem Fin.at {a b B g k n i : Nat} {At Aw : Option Addr} {hv : Value} {H : List Int} {w0 wr : World} (h : Fin a b B g k n At Aw i hv H w0 wr) (hk : k ≤ 12) (hi : i < n) :
    ∃ d1 d2 t gi A c hs, At = some d1 ∧ Aw = some d2 ∧ wr.cell? (d1.add i) = some (.pointer (some ⟨t, 0, none⟩)) ∧ wr.cell? (d2.add i) = some (.pointer (some ⟨gi, 0, none⟩)) ∧ wr.cell? ⟨gi, 4, none⟩ = some (.bool false) ∧ wr.cell? ⟨gi, 0, none⟩ = some (.slice A hs c) ∧ B ≤ wr.heap.size ∧ H.length + hs ≤ 12 ∧
      Hid (Calls Try.prog 41 #[.pointer (some ⟨t, 0, none⟩)] wr fun e w' => e = .returned (.bool true) ∧ wr = w') ∧ Hid (wr.ownsRow B 3 1 hv H.length (H.map (Value.int .i64))) ∧
      ∃ Hs : List Int, Hid (Reads wr A hs (Hs.map (Value.int .i64))) ∧ Hid (∀ (w5 : World) (hv' : Value), w5.ownsRow B 3 1 hv' (H.length + hs) (H.map (Value.int .i64) ++ Hs.map (Value.int .i64)) → wr.grownBy w5 hv.ownBlock → (hv'.ownBlock = hv.ownBlock ∨ hv'.ownBlock = some wr.heap.size) → (H ++ Hs).length = H.length + hs ∧ Fin a b B g k n At Aw (i + 1) hv' (H ++ Hs) w0 w5) := by
  obtain ⟨ks, τ, ts, gh, Z, s, hG, hmn, hin, hgh, hz, hzt, hzw, ho, hH, hrow⟩ := h.ex
  have hlens := hG.lens
  have htl : ts.length = n := by rw [← hin]; exact hlens.1
  have hrl := hmn.all.len
  obtain ⟨d1, rfl, hd1⟩ := hG.lie hzt i (.pointer (some ⟨ts[i], 0, none⟩)) (by simp [ptrs, htl, hi])
  obtain ⟨d2, rfl, hd2⟩ := hG.lie hzw i (.pointer (some ⟨gh[i], 0, none⟩)) (by simp [ptrw, hgh, hi])
  have hx : τ.r[i + 1]? = some τ.r[i + 1] := List.getElem?_eq_getElem (by omega)
  have hg2 : ((g + 1) :: gh)[i + 1]? = some gh[i] := by simp [hgh, hi]
  obtain ⟨c0, c1, hc⟩ := Grp.cells8 hG hg2 hx
  obtain ⟨A, c, hc0, h1, h2, h3⟩ := Grp.hands8 hG hg2 hx
  have hxt : τ.r.tail[i]? = some τ.r[i + 1] := by rw [List.getElem?_tail]; exact hx
  have hnew := hands_take hxt
  have hpl := hmn.perm.length_eq
  rw [nums_len, allHands_tail hmn.fst, List.length_append] at hpl
  have hle := hands_le τ.r.tail (i + 1)
  have hbl : (H ++ τ.r[i + 1].hands).length ≤ 12 := by rw [hH, ← hnew]; omega
  rw [List.length_append] at hbl
  have hend := hG.ended_c (i := i) (t := ts[i]) (List.getElem?_eq_getElem (by omega))
  rw [ho i hi] at hend
  refine ⟨d1, d2, ts[i], gh[i], A, c, _, rfl, rfl, hd1, hd2, ?_, hc0, hG.bel_le, hbl, hend, hrow, τ.r[i + 1].hands, h3, ?_⟩
  · rw [cell_of_row _ _ _ _ _ _ hc, hmn.right _ _ hx]
    rfl
  · show ∀ (w5 : World) (hv' : Value), _
    intro w5 hv' hown hgrow hat
    refine ⟨by simp, ⟨ks, τ, ts, gh, Z, s, hG.rescr (X := fun q => hv'.ownBlock = some q) (Wrote.of_grown hgrow) (fun q hq => ⟨?_, (hown.lt q hq).2⟩), hmn, hin, hgh, hz, hzt, hzw, ho, ?_, ?_⟩⟩
    · rcases hat with hat | hat
      · exact Or.inl (hat.symm.trans hq)
      · right
        have := hat.symm.trans hq
        simp at this
        omega
    · rw [hnew, hH]
    · rw [List.map_append, List.length_append]
      exact hown
theorem Fin.ends {a b B g k n c : Nat} {At Aw Ah : Option Addr} {nh : Nat} {H : List Int} {w0 wr : World} (h : Fin a b B g k n At Aw n (.slice Ah nh c) H w0 wr) (hk : k ≤ 12) : StkAt a g wr ∧
    Hid (Calls Try.prog 54 #[stk8 a] wr fun e w2 => ∃ A2 n2 c2, e = .returned (.slice A2 n2 c2) ∧
      Hid (Calls Try.prog 57 #[.slice A2 n2 c2, .slice Ah nh c, .int .i64 (k : Int)] w2 fun e w3 => e = .returned (.bool true) ∧ Below B w0 w3)) := by
  obtain ⟨ks, τ, ts, gh, Z, s, hG, hmn, hin, hgh, hz, hzt, hzw, ho, hH, hrow⟩ := h.ex
  refine ⟨stk_at hG hz, ?_⟩
  show Calls _ _ _ _ _
  refine (List_c hG.ar.1 hG.ar.2.1 hmn.stk).mono ?_
  rintro e w2 ⟨A2, c2, rfl, hrow2, hm2⟩
  refine ⟨A2, _, c2, rfl, ?_⟩
  show Calls _ _ _ _ _
  have hG2 := hG.later hm2
  have hrow3 := (hG.same_made hm2).row (fun k hk => hk) hrow
  obtain ⟨d1, d2, d3, d4⟩ := row_dims hrow3
  rw [← d1] at hrow3
  have hro := reads_own hrow3
  have hrl := hmn.all.len
  have hall : H = allHands τ.r.tail := by
    rw [hH, List.take_of_length_le]
    simp
    omega
  refine (Each_c A2 Ah s.length nh c2 c k s H (by omega) w2 (reads_own hrow2) hro (by
    have := hmn.perm
    rw [allHands_tail hmn.fst, ← hall] at this
    exact this)).mono ?_
  rintro e w3 ⟨rfl, hm3⟩
  exact ⟨rfl, (hG2.later hm3).bel⟩
end Go.Proofs.Ythllplocbciepaa.Kod.Eight
