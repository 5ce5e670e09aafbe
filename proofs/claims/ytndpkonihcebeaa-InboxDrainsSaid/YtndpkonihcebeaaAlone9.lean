/- InboxAlone: what holds between two calls of a round. -/
import Derived.Test.YtndpkonihcebeaaRef9
namespace Go.Proofs.Ytndpkonihcebeaa.Kod
open Go.RowKit Go.Proofs.Ytndpkonihcebeaa Go.Proofs.Ytndpkonihcebeaa.Cell
set_option linter.unusedVariables false
set_option linter.unusedSimpArgs false
section
variable {S : Sys} {B m n : Nat} {M : Mach S} {ts gh : List Nat} {C : List (S.K × Value)} {Z : List (Option Addr × List Value)} {own : Nat → Prop} {w0 wr w' : World}
/-- A cell of the arena is written by the law itself. -/
theorem Grp.store_c (h : Grp S B m (n + 1) M ts gh C Z own w0 wr) (i v : Int) (hv : 0 ≤ v ∧ v < 18446744073709551616) :
    Calls Try.prog 23 #[.pointer (some ⟨S.a, 0, none⟩), .int .i64 i, .int .u64 v] wr fun e w' => (∃ b, e = .returned (.bool b)) ∧ Hid (Grp S B m n ⟨M.ks, M.σ.sto i v⟩ ts gh C Z own w0 w') ∧ Same own wr w' := by
  have hbel := h.bel
  have hlow := h.low
  obtain ⟨rs, L, hr, rfl, hgh, hold, hC, hZ, hscr⟩ := h.ex
  refine (Sto_c hr.inv i v hv).mono ?_
  rintro e w' ⟨hb, hi, ht⟩
  have hx := Ext.of_turned (S := S) (L := L) ht
  obtain ⟨g1, g2⟩ := Grp.ran (M' := ⟨M.ks, M.σ.sto i v⟩) hr rfl hgh hold hC hZ hscr hbel hlow hx (hr.inv.keeps_turned ht) (hr.access hx hi) (Nat.le_refl _)
  exact ⟨hb, g1, g2⟩
/-- Slices that are new are noted. -/
theorem Grp.notes (h : Grp S B m n M ts gh C Z own w0 wr) (hm : Made wr w') {Z' : List (Option Addr × List Value)} (hz : ∀ z ∈ Z', z ∈ Z ∨ ∃ E N c, w'.ownsRow wr.heap.size E 1 (.slice z.1 N c) N z.2) : Grp S B m n M ts gh C Z' own w0 w' := by
  have h' := h.later hm
  obtain ⟨rs, L, hr, hts, hgh, hold, hC, hZ, hscr⟩ := h.ex
  have e := Ext.of_made (S := S) (L := L) hm
  refine ⟨⟨rs, L, hr.later hm, hts, hgh, hold.later e, fun c hc => (hC c hc).later e, fun z hz' => ?_, hscr⟩, h'.bel, h.low⟩
  rcases hz z hz' with hz' | ⟨E, N, c, hw⟩
  · exact (hZ z hz').later e
  · obtain ⟨A, c2, e2, hN, hli⟩ := owns_lies (S := S) (L := L) hw (fun k hk => hr.inv.new (hw.lt k hk).1)
    simp only [Value.slice.injEq] at e2
    rw [e2.1]
    exact hli
theorem reads_of9 (h : Grp S B m n M ts gh C Z own w0 wr) {A : Option Addr} {vs : List Value} (hz : (A, vs) ∈ Z) : Reads wr A vs.length vs := ⟨rfl, fun j u hu => h.lie hz j u hu⟩
end
theorem row_dims9 {w : World} {B' n k c : Nat} {E : TypeId} {A : Option Addr} {vs : List Value} (h : w.ownsRow B' E 1 (.slice A n c) k vs) : n = k ∧ k = vs.length ∧ n ≤ c ∧ c ≤ maxLen := by
  have h0 := h.1
  rcases h.2 with ⟨h1, h2⟩ | ⟨g, cap, cur, h1, h2, h3, h4, h5, h6, h7⟩
  · simp only [Value.slice.injEq] at h1
    omega
  · simp only [Value.slice.injEq] at h1
    omega
end Go.Proofs.Ytndpkonihcebeaa.Kod
namespace Go.Proofs.Ytndpkonihcebeaa.Kod.Nine
open Go.RowKit Go.Proofs.Ytndpkonihcebeaa Go.Proofs.Ytndpkonihcebeaa.Cell Go.Proofs.Ytndpkonihcebeaa.Wd
set_option linter.unusedVariables false
set_option linter.unusedSimpArgs false
section
variable {a b : Nat} {eb : Option Nat} {nn : Nat} {dead : Int → Bool}
variable {B m n N : Nat} {ks : List K9} {τ : St R9} {ts gh : List Nat} {C : List (K9 × Value)} {Z : List (Option Addr × List Value)} {own : Nat → Prop} {w0 wr w' : World} {bl fl : List Int}
/-- New, and Finish; the law's own blocks stay. -/
theorem Grp.round9s {k : K9} {v : Value} {most : Nat} (h : Grp (S9 a b nn eb) B (m + N) (n + 2 * N) (mk a b nn eb ks τ) ts gh C Z own w0 wr) (hv : (k, v) ∈ C) (T : Two nn dead τ.xs bl fl) (hE : τ.r.ended.length < 1000000) (S : So nn dead τ.xs bl fl [] τ.r.own k) (hc : cost9 bl [] k ≤ N) (hm : N ≤ most) :
    Calls Try.prog 14 #[v] wr fun e w1 => ∃ tb, e = .returned (.pointer (some ⟨tb, 0, none⟩)) ∧ Hid (Calls Try.prog 18 #[.pointer (some ⟨tb, 0, none⟩), .int .i64 (most : Int)] w1 fun e w2 => e = .returned (.bool true) ∧ ∃ τ' bl' fl', Hid (Grp (S9 a b nn eb) B m n (mk a b nn eb (ks ++ [.done]) τ') (ts ++ [tb]) gh C Z own w0 w2) ∧ Two nn dead τ'.xs bl' fl' ∧ (bl', fl', τ'.r.own) = fin9 dead bl fl [] τ.r.own k ∧ τ'.r.ended = τ.r.ended ∧ Same own wr w2) := by
  refine (Grp.new_c h hv).mono ?_
  rintro e w1 ⟨rfl, hm1, hlt, hg⟩
  have hs1 := h.same_made hm1
  have hl := h.lens
  have hts : ts.length = ks.length := hl.1
  refine ⟨_, rfl, ?_⟩
  refine (Grp.alone9 (p := ks.length) (k := k) (tb := wr.heap.size) (ks := ks ++ [k]) (τ := { τ with steps := τ.steps ++ [0] }) (bl := bl) (fl := fl) (rl := []) hg.out (by rw [← hts]; simp) (by simp) T hE S hc hm).mono ?_
  rintro e w2 ⟨rfl, τ', bl', fl', g1, g2, g3, g4, g5, g6⟩
  refine ⟨rfl, τ', bl', fl', ?_, g2, g3, g4, hs1.trans g6⟩
  have e : (ks ++ [k]).set ks.length K9.done = ks ++ [.done] := by simp
  rw [e] at g1
  exact g1
end
theorem helpB_perm (dead : Int → Bool) : ∀ (b f : List Int), ((helpB dead b f).1 ++ (helpB dead b f).2).Perm (b ++ f)
  | [], f => List.Perm.refl _
  | i :: b, f => by
    cases hd : dead i with
    | true =>
      rw [helpB_dead hd]
      exact (helpB_perm dead b (i :: f)).trans List.perm_middle
    | false =>
      rw [helpB_live hd]
theorem putR_perm (dead : Int → Bool) (b f : List Int) (t : Int) : ((putR dead (b, f) t).1 ++ (putR dead (b, f) t).2).Perm (t :: (b ++ f)) := (helpB_perm dead b f).cons t
/-- A slice of the law's, that never turns. -/
def Has9 (Z : List (Option Addr × List Value)) (v : Value) (xs : List Int) : Prop := ∃ A c, v = .slice A xs.length c ∧ xs.length ≤ c ∧ c ≤ maxLen ∧ (A, xs.map (Value.int .i64)) ∈ Z
/-- The box, and what it captures. -/
def Bx9 (a ba bn g : Nat) (Z : List (Option Addr × List Value)) : Prop := (some (⟨g, 0, none⟩ : Addr), (bxf a ba bn).toList) ∈ Z ∧ (some (⟨ba, 0, none⟩ : Addr), [Value.pointer (some ⟨a, 0, none⟩)]) ∈ Z ∧ (some (⟨bn, 0, none⟩ : Addr), [Value.int .i64 ((20 : Nat) : Int)]) ∈ Z
theorem Bx9.mono {a ba bn g : Nat} {Z Z' : List (Option Addr × List Value)} (h : Bx9 a ba bn g Z) (hz : ∀ z ∈ Z, z ∈ Z') : Bx9 a ba bn g Z' := ⟨hz _ h.1, hz _ h.2.1, hz _ h.2.2⟩
theorem Has9.mono {Z Z' : List (Option Addr × List Value)} {v : Value} {xs : List Int} (h : Has9 Z v xs) (hz : ∀ z ∈ Z, z ∈ Z') : Has9 Z' v xs := by
  obtain ⟨A, c, h1, h2, h3, h4⟩ := h
  exact ⟨A, c, h1, h2, h3, hz _ h4⟩
/-- Between two rounds. -/
structure Alo9 (a b ba bn B g gd r : Nat) (dead : Int → Bool) (nx : Nat) (bl fl : List Int) (mv fv : Value) (w0 wr : World) : Prop where
  ex : ∃ ks τ ts gh Z, Grp (S9 a b (20 : Nat) none) B (200 * (60 - r)) (2 * (200 * (60 - r))) (Nine.mk a b (20 : Nat) none ks τ) ts gh [] Z (fun q => q = gd) w0 wr ∧ Two 20 dead τ.xs bl fl ∧ τ.r.ended = [] ∧ (bl ++ fl).Nodup ∧ (∀ i ∈ bl ++ fl, 0 ≤ i ∧ i < nx) ∧ nx ≤ 20 ∧ Bx9 a ba bn g Z ∧ wr.heap[gd]? = some (.cells (deads dead 20).toArray 4 (0, 0)) ∧ Has9 Z mv bl ∧ Has9 Z fv fl
variable {a b ba bn B g gd r nx : Nat} {dead : Int → Bool} {bl fl : List Int} {mv fv : Value} {w0 wr w' : World}
theorem Alo9.later (h : Alo9 a b ba bn B g gd r dead nx bl fl mv fv w0 wr) (hm : Made wr w') : Alo9 a b ba bn B g gd r dead nx bl fl mv fv w0 w' := by
  obtain ⟨ks, τ, ts, gh, Z, hG, T, he, h1, h2, h3, h4, h5, h6, h7⟩ := h.ex
  exact ⟨ks, τ, ts, gh, Z, hG.later hm, T, he, h1, h2, h3, h4, ((hG.same_made hm).same gd rfl).trans h5, h6, h7⟩
theorem Alo9.skip (h : Alo9 a b ba bn B g gd r dead nx bl fl mv fv w0 wr) : Alo9 a b ba bn B g gd (r + 1) dead nx bl fl mv fv w0 wr := by
  obtain ⟨ks, τ, ts, gh, Z, hG, h1⟩ := h.ex
  exact ⟨ks, τ, ts, gh, Z, hG.lower (by omega) (by omega), h1⟩
theorem Alo9.bel (h : Alo9 a b ba bn B g gd r dead nx bl fl mv fv w0 wr) : Below B w0 wr := by
  obtain ⟨ks, τ, ts, gh, Z, hG, _⟩ := h.ex
  exact hG.bel
theorem Alo9.seven (h : Alo9 a b ba bn B g gd r dead nx bl fl mv fv w0 wr) : Seven a ba bn g wr := by
  obtain ⟨ks, τ, ts, gh, Z, hG, T, he, h1, h2, h3, h4, _⟩ := h.ex
  exact Grp.seven hG h4.1
theorem deads_len (dead : Int → Bool) (nn : Nat) : (deads dead nn).length = nn := by simp [deads]
theorem Alo9.dims {Am Af : Option Addr} {nm cm nf cf : Nat} (h : Alo9 a b ba bn B g gd r dead nx bl fl (.slice Am nm cm) (.slice Af nf cf) w0 wr) : nm = bl.length ∧ nf = fl.length ∧ nm + nf ≤ 20 ∧ nx ≤ 20 ∧ gd < wr.heap.size ∧ nm ≤ cm ∧ nf ≤ cf ∧ cm ≤ maxLen ∧ cf ≤ maxLen := by
  obtain ⟨ks, τ, ts, gh, Z, hG, T, he, h1, h2, h3, h4, h5, ⟨A, c, e1, l1, l2, l3⟩, ⟨A', c', e2, k1, k2, k3⟩⟩ := h.ex
  simp only [Value.slice.injEq] at e1 e2
  obtain ⟨rfl, rfl, rfl⟩ := e1
  obtain ⟨rfl, rfl, rfl⟩ := e2
  have h8 := few_of 20 (bl ++ fl) h1 (fun i hi => by have := h2 i hi; omega)
  simp at h8
  exact ⟨rfl, rfl, h8, h3, lt_of_at h5, l1, k1, l2, k2⟩
/-- A Put. -/
theorem Alo9.put {Am Af : Option Addr} {nm cm nf cf : Nat} (h : Alo9 a b ba bn B g gd r dead nx bl fl (.slice Am nm cm) (.slice Af nf cf) w0 wr) (hr : r < 60) (hn : nx < 20) :
    Calls Try.prog 21 #[.slice Am nm cm, .slice Af nf cf, .int .i64 (nx : Int), .slice (some ⟨gd, 0, none⟩) 20 20] wr fun e w1 => ∃ A1 n1 c1 A2 n2 c2, e = .returned (.tuple #[.slice A1 n1 c1, .slice A2 n2 c2]) ∧ Seven a ba bn g w1 ∧
      Hid (∀ o, Calls Try.prog 16 #[.agg (bxf a ba bn), .slice (some ⟨w1.heap.size, 0, none⟩) 1 1, .nilFunc] (w1.alloc (.cells #[.int .i64 (nx : Int)] o)) fun e w2 => ∃ f c, e = .returned (.func (.func f) #[] c) ∧
        Hid (Calls Try.prog 14 #[.func (.func f) #[] c] w2 fun e w3 => ∃ tb, e = .returned (.pointer (some ⟨tb, 0, none⟩)) ∧ Hid (Calls Try.prog 18 #[.pointer (some ⟨tb, 0, none⟩), .int .i64 400] w3 fun e w4 => e = .returned (.bool true) ∧
          ∃ bl' fl', Hid (Alo9 a b ba bn B g gd (r + 1) dead (nx + 1) bl' fl' (.slice A1 n1 c1) (.slice A2 n2 c2) w0 w4)))) := by
  obtain ⟨ks, τ, ts, gh, Z, hG, T, he, h1, h2, h3, h4, h5, ⟨A, c, e1, l1, l2, l3⟩, ⟨A', c', e2, k1, k2, k3⟩⟩ := h.ex
  simp only [Value.slice.injEq] at e1 e2
  obtain ⟨rfl, rfl, rfl⟩ := e1
  obtain ⟨rfl, rfl, rfl⟩ := e2
  have h8 := few_of 20 (bl ++ fl) h1 (fun i hi => by have := h2 i hi; omega)
  simp only [List.length_append] at h8
  have q1 := reads_of9 hG l3
  have q2 := reads_of9 hG k3
  rw [List.length_map] at q1 q2
  have q3 : Reads wr (some ⟨gd, 0, none⟩) 20 (deads dead 20) := by
    have := Reads.row (m := 20) h5 (by simp [deads_len])
    simpa using this
  refine (Put9_c dead gd bl fl Am Af bl.length fl.length cm cf (nx : Int) wr q1 q2 q3 (fun i hi => by have := h2 i (List.mem_append_left _ hi); omega) l1 (by omega)).mono ?_
  rintro e w1 ⟨A1, n1, c1, A2, n2, c2, rfl, hrow, hor, hn2, hm⟩
  obtain ⟨bl', hbl⟩ : ∃ x, x = (putR dead (bl, fl) (nx : Int)).1 := ⟨_, rfl⟩
  obtain ⟨fl', hfl⟩ : ∃ x, x = (putR dead (bl, fl) (nx : Int)).2 := ⟨_, rfl⟩
  have hperm := putR_perm dead bl fl (nx : Int)
  rw [← hbl] at hrow hperm
  rw [← hfl] at hor hn2 hperm
  obtain ⟨d1, d2, d3, d4⟩ := row_dims9 hrow
  rw [List.length_map] at d2
  obtain ⟨Z1, hZ1⟩ : ∃ Z1 : List (Option Addr × List Value), Z1 = (A1, bl'.map (Value.int .i64)) :: (A2, fl'.map (Value.int .i64)) :: Z := ⟨_, rfl⟩
  have hZm : ∀ z ∈ Z, z ∈ Z1 := fun z hz => by rw [hZ1]; exact List.mem_cons_of_mem _ (List.mem_cons_of_mem _ hz)
  have hfree : ((A2, fl'.map (Value.int .i64)) ∈ Z ∨ w1.ownsRow wr.heap.size 3 1 (.slice A2 n2 c2) n2 (fl'.map (Value.int .i64))) ∧ n2 ≤ c2 ∧ c2 ≤ maxLen := by
    rcases hor with ⟨e3, e4⟩ | hor
    · simp only [Value.slice.injEq] at e3
      obtain ⟨rfl, rfl, rfl⟩ := e3
      rw [e4]
      exact ⟨Or.inl k3, k1, k2⟩
    · obtain ⟨f1, f2, f3, f4⟩ := row_dims9 hor
      exact ⟨Or.inr hor, f3, f4⟩
  have hG1 : Grp (S9 a b (20 : Nat) none) B (200 * (60 - r)) (2 * (200 * (60 - r))) (Nine.mk a b (20 : Nat) none ks τ) ts gh [] Z1 (fun q => q = gd) w0 w1 := Grp.notes hG hm fun z hz => by
    rw [hZ1] at hz
    rcases List.mem_cons.1 hz with rfl | hz
    · exact Or.inr ⟨_, _, _, hrow⟩
    · rcases List.mem_cons.1 hz with rfl | hz
      · exact hfree.1.imp id fun h => ⟨_, _, _, h⟩
      · exact Or.inl hz
  have hs1 := hG.same_made hm
  refine ⟨A1, n1, c1, A2, n2, c2, rfl, Grp.seven hG1 (hZm _ h4.1), ?_⟩
  intro o
  have hma : Made w1 (w1.alloc (.cells #[.int .i64 (nx : Int)] o)) := (Made.refl _).alloc (Nat.le_refl _) _
  have hG2 := hG1.box hma (Nat.le_refl _) (heap_alloc_new w1 (.cells #[.int .i64 (nx : Int)] o))
  have hs2 := hG1.same_made hma
  have hb4 := h4.mono hZm
  refine (Grp.puts9 (N := 1) (c := 1) (ba := ba) (bn := bn) (l := [(nx : Int)]) hG2 (Lib.hid rfl) (Nat.le_refl _) (by omega) (by omega) (by omega) List.mem_cons_self (List.mem_cons_of_mem _ hb4.2.1) (List.mem_cons_of_mem _ hb4.2.2) (fun t ht => by obtain rfl := List.mem_singleton.1 ht; omega)).mono ?_
  rintro e w2 ⟨v, rfl, _, hG3, hs3⟩
  obtain ⟨f, cc, rfl⟩ := Grp.live hG3.out List.mem_cons_self rfl
  refine ⟨f, cc, rfl, ?_⟩
  have hnx : (nx : Int) ∉ bl ++ fl := fun hi => by have := h2 _ hi; omega
  have hap : Apart 20 (bl ++ fl ++ [(nx : Int)]) := ⟨by
    rw [List.nodup_append]
    exact ⟨h1, by simp, fun x hx y hy => by obtain rfl := List.mem_singleton.1 hy; exact fun e => hnx (e ▸ hx)⟩, fun i hi => by
    rcases List.mem_append.1 hi with hi | hi
    · have := h2 i hi; omega
    · obtain rfl := List.mem_singleton.1 hi; omega⟩
  have hG3' : Grp (S9 a b (20 : Nat) none) B (200 * (60 - (r + 1)) + 150) (2 * (200 * (60 - (r + 1))) + 2 * 150) (Nine.mk a b (20 : Nat) none ks τ) ts gh [(kput false [(nx : Int)], .func (.func f) #[] cc)] _ (fun q => q = gd) w0 w2 := hG3.out.lower (by omega) (by omega)
  refine (Grp.round9s (N := 150) (most := 400) hG3' List.mem_cons_self T (by rw [he]; simp) (show So 20 dead τ.xs bl fl [] τ.r.own (.putL false (nx : Int) []) from ⟨rfl, rfl, hap⟩) (show 4 + 7 * bl.length + 11 * ([] : List Int).length ≤ 150 by simp; omega) (by omega)).mono ?_
  rintro e w3 ⟨tb, rfl, HF⟩
  refine ⟨tb, rfl, ?_⟩
  refine HF.out.mono ?_
  rintro e w4 ⟨rfl, τ', bl2, fl2, hG4, T', hfin, hend, hs4⟩
  have hfin' : (bl2, fl2, τ'.r.own) = ((putR dead (bl, fl) (nx : Int)).1, (putR dead (bl, fl) (nx : Int)).2, τ.r.own) := hfin
  simp only [Prod.mk.injEq] at hfin'
  obtain ⟨g1, g2, _⟩ := hfin'
  rw [← hbl] at g1
  rw [← hfl] at g2
  subst g1 g2
  have hZ2 : ∀ z ∈ Z1, z ∈ (some (⟨w1.heap.size, 0, none⟩ : Addr), (#[Value.int .i64 (nx : Int)] : Array Value).toList) :: Z1 := fun z hz => List.mem_cons_of_mem _ hz
  refine ⟨rfl, bl2, fl2, ⟨_, τ', _, gh, _, hG4.out.drop (C' := []) (fun c hc => by simp at hc) (fun z hz => hz), T', hend.trans he, ?_, ?_, by omega, hb4.mono hZ2, ?_, ?_, ?_⟩⟩
  · rw [hperm.nodup_iff]
    exact List.nodup_cons.2 ⟨hnx, h1⟩
  · intro i hi
    rcases List.mem_cons.1 (hperm.mem_iff.1 hi) with rfl | hi
    · omega
    · have := h2 i hi; omega
  · have := (((hs1.trans hs2).trans hs3).trans hs4).same gd rfl
    rw [this]
    exact h5
  · refine ⟨A1, c1, by rw [d1, d2], by omega, d4, hZ2 _ ?_⟩
    rw [hZ1]
    exact List.mem_cons_self
  · refine ⟨A2, c2, by rw [hn2], by have := hfree.2.1; omega, hfree.2.2, hZ2 _ ?_⟩
    rw [hZ1]
    exact List.mem_cons_of_mem _ List.mem_cons_self
/-- A Drain. -/
theorem Alo9.drain {Am : Option Addr} {nm cm : Nat} (h : Alo9 a b ba bn B g gd r dead nx bl fl (.slice Am nm cm) fv w0 wr) (hr : r < 60) {W : World} (hW : W = wr.alloc (.cells #[.slice none 0 0, .slice none 0 0] 36)) :
    Seven a ba bn g W ∧ Hid (Calls Try.prog 15 #[.agg (bxf a ba bn), .int .i64 1, .pointer (some ⟨wr.heap.size, 0, none⟩)] W fun e w2 => ∃ f c, e = .returned (.func (.func f) #[] c) ∧
      Hid (Calls Try.prog 14 #[.func (.func f) #[] c] w2 fun e w3 => ∃ tb, e = .returned (.pointer (some ⟨tb, 0, none⟩)) ∧ Hid (Calls Try.prog 18 #[.pointer (some ⟨tb, 0, none⟩), .int .i64 100] w3 fun e w4 => e = .returned (.bool true) ∧
        ∃ A c, w4.cell? ⟨wr.heap.size, 0, none⟩ = some (.slice A nm c) ∧ Hid (Calls Try.prog 22 #[.slice A nm c, .slice Am nm cm] w4 fun e w5 => e = .returned (.bool true) ∧ Hid (Alo9 a b ba bn B g gd (r + 1) dead nx [] fl (.slice none 0 0) fv w0 w5))))) := by
  obtain ⟨ks, τ, ts, gh, Z, hG, T, he, h1, h2, h3, h4, h5, ⟨A, c, e1, l1, l2, l3⟩, h7⟩ := h.ex
  simp only [Value.slice.injEq] at e1
  obtain ⟨rfl, rfl, rfl⟩ := e1
  have h8 := few_of 20 (bl ++ fl) h1 (fun i hi => by have := h2 i hi; omega)
  simp only [List.length_append] at h8
  subst hW
  have hma : Made wr (wr.alloc (.cells #[.slice none 0 0, .slice none 0 0] 36)) := (Made.refl _).alloc (Nat.le_refl _) _
  have hs1 := hG.same_made hma
  obtain ⟨hG1, hgl⟩ := Grp.owner9 hG hma (Nat.le_refl _) (heap_alloc_new _ _)
  refine ⟨Grp.seven hG1 h4.1, ?_⟩
  have hgo : (gh ++ [wr.heap.size])[gh.length]? = some wr.heap.size := by simp
  refine (Grp.drains9 (o := gh.length) (k := 1) (ba := ba) (bn := bn) hG1 hgo (by omega)).mono ?_
  rintro e w2 ⟨v, rfl, _, hG2, hs2⟩
  obtain ⟨f, cc, rfl⟩ := Grp.live hG2.out List.mem_cons_self rfl
  refine ⟨f, cc, rfl, ?_⟩
  obtain ⟨τ1, hτ1⟩ : ∃ τ1 : St R9, τ1 = { τ with r := { τ.r with own := τ.r.own ++ [([], [])] } } := ⟨_, rfl⟩
  have hown : τ1.r.own[gh.length]? = some ([], []) := by rw [hτ1, hgl]; simp
  have hxs : τ1.xs = τ.xs := by rw [hτ1]
  have hen : τ1.r.ended = [] := by rw [hτ1]; exact he
  have hG3 : Grp (S9 a b (20 : Nat) none) B (200 * (60 - (r + 1)) + 100) (2 * (200 * (60 - (r + 1))) + 2 * 100) (Nine.mk a b (20 : Nat) none ks τ1) ts (gh ++ [wr.heap.size]) [(kdr gh.length 1, .func (.func f) #[] cc)] Z (fun q => q = gd) w0 w2 := by
    rw [hτ1]
    exact hG2.out.lower (by omega) (by omega)
  refine (Grp.round9s (N := 100) (most := 100) (dead := dead) (bl := bl) (fl := fl) hG3 List.mem_cons_self (by rw [hxs]; exact T) (by rw [hen]; simp) (show So 20 dead τ1.xs bl fl [] τ1.r.own (.drL gh.length 0) from ⟨rfl, ⟨h1, fun i hi => by have := h2 i hi; omega⟩, _, hown, by simp; omega, by simp⟩) (show 2 + 2 * bl.length + 2 * 0 ≤ 100 by omega) (by omega)).mono ?_
  rintro e w3 ⟨tb, rfl, HF⟩
  refine ⟨tb, rfl, ?_⟩
  refine HF.out.mono ?_
  rintro e w4 ⟨rfl, τ', bl2, fl2, hG4, T', hfin, hend, hs4⟩
  have hfin' : (bl2, fl2, τ'.r.own) = ([], fl, drR gh.length 0 bl τ1.r.own) := hfin
  simp only [Prod.mk.injEq] at hfin'
  obtain ⟨rfl, rfl, g3⟩ := hfin'
  have hlt := (List.getElem?_eq_some_iff.1 hown).1
  have hy : τ'.r.own[gh.length]? = some (bl, [(bl.length : Int)]) := by
    rw [g3]
    unfold drR
    rw [hown]
    simp [List.getElem?_set_self hlt]
  obtain ⟨A4, c4, A5, c5, q1, q2, q3, q4⟩ := Grp.got9 (o := gh.length) (g := wr.heap.size) hG4.out hgo hy
  refine ⟨rfl, A4, c4, q1, ?_⟩
  have hmod := reads_of9 hG4.out l3
  refine (Same_c bl A4 Am bl.length c4 cm rfl w4 (own_ints q3) (fun k hk => hmod.2 k _ (by simp [hk])) (by omega)).mono ?_
  rintro e w5 ⟨rfl, hm5⟩
  have hG5 := hG4.out.later hm5
  have hs5 := hG4.out.same_made hm5
  have hG6 := hG5.given (A := none) (vs := []) (fun i v hv => by simp at hv)
  have hZ2 : ∀ z ∈ Z, z ∈ ((none, []) : Option Addr × List Value) :: Z := fun z hz => List.mem_cons_of_mem _ hz
  refine ⟨rfl, ⟨_, τ', _, _, _, hG6.drop (C' := []) (fun c hc => by simp at hc) (fun z hz => hz), T', hend.trans hen, ?_, ?_, h3, h4.mono hZ2, ?_, ?_, h7.mono hZ2⟩⟩
  · exact (List.nodup_append.1 h1).2.1
  · intro i hi
    exact h2 i (List.mem_append_right _ hi)
  · have := (((hs1.trans hs2).trans hs4).trans hs5).same gd rfl
    rw [this]
    exact h5
  · exact ⟨none, 0, rfl, Nat.le_refl _, Nat.zero_le _, List.mem_cons_self⟩
/-- A ticket dies. -/
def slain (dead : Int → Bool) (T : Nat) : Int → Bool := fun i => if i = (T : Int) then true else dead i
theorem deads_slain (dead : Int → Bool) {T nn : Nat} (hT : T < nn) : (deads dead nn).toArray.setIfInBounds T (.bool true) = (deads (slain dead T) nn).toArray := by
  apply Array.ext'
  simp only [Array.toList_setIfInBounds]
  apply List.ext_getElem?
  intro k
  by_cases hk : k < nn
  · rw [deads_at hk, List.getElem?_set]
    by_cases he : T = k
    · subst he
      simp [deads_len, hT, slain]
    · rw [if_neg he, deads_at hk]
      unfold slain
      rw [if_neg (by omega)]
  · rw [List.getElem?_eq_none (by simp [deads_len]; omega), List.getElem?_eq_none (by rw [deads_len]; omega)]
theorem Two.slay {nn : Nat} {xs : List Int} (T : Two nn dead xs bl fl) {t : Nat} (ht : t < nn) : Two nn (slain dead t) (xs.set (2 + nn + t) 1) bl fl := by
  have hl := T.len
  refine ⟨by simpa using T.len, T.few, ?_, ?_, fun i h0 h1 => ?_⟩
  · rw [getD_set _ _ _ _ (by omega)]
    exact T.bx.set fun k hk => by have := T.bx.mem k hk; omega
  · rw [getD_set _ _ _ _ (by omega)]
    exact T.fr.set fun k hk => by have := T.fr.mem k hk; omega
  · unfold slain
    by_cases he : i = (t : Int)
    · subst he
      rw [if_pos rfl, show (2 + (nn : Int) + (t : Int)).toNat = 2 + nn + t by omega, getD_set_self _ _ _ (by omega)]
      rfl
    · rw [if_neg he, getD_set _ _ _ _ (by omega)]
      exact T.dd i h0 h1
theorem Alo9.kill (h : Alo9 a b ba bn B g gd r dead nx bl fl mv fv w0 wr) (hr : r < 60) {T : Nat} (hT : T < 20) {W : World} {o : Obj} (hW : W = (wr.setCell ⟨gd, T, none⟩ (.bool true)).alloc o) :
    wr.cell? ⟨gd, T, none⟩ = some (.bool (dead (T : Int))) ∧ wr.frozen? ⟨gd, T, none⟩ = false ∧ Seven a ba bn g W ∧ Hid (Calls Try.prog 23 #[.pointer (some ⟨a, 0, none⟩), .int .i64 (22 + (T : Int)), .int .u64 1] W fun e w2 => (∃ b, e = .returned (.bool b)) ∧ Hid (Alo9 a b ba bn B g gd (r + 1) (slain dead T) nx bl fl mv fv w0 w2)) := by
  obtain ⟨ks, τ, ts, gh, Z, hG, T0, he, h1, h2, h3, h4, h5, h6, h7⟩ := h.ex
  have hl := T0.len
  subst hW
  have hc : wr.cell? ⟨gd, T, none⟩ = some (.bool (dead (T : Int))) := by
    rw [cell_of_row _ _ _ _ _ _ h5]
    have := deads_at (dead := dead) (nn := 20) hT
    simpa using this
  have hgl := lt_of_at h5
  have hG1 := hG.rescr (X := fun q => q = gd) ((Wrote.set gd T wr (.bool true)).mono fun k _ hk => hk) (fun k hk => ⟨Or.inl hk, by rw [hk]; simpa [World.setCell] using hgl⟩)
  have hmo : Made (wr.setCell ⟨gd, T, none⟩ (.bool true)) ((wr.setCell ⟨gd, T, none⟩ (.bool true)).alloc o) := (Made.refl _).alloc (Nat.le_refl _) _
  have hs0 := hG1.same_made hmo
  have hG1 := hG1.later hmo
  refine ⟨hc, frozen_of_row _ _ _ _ _ h5, Grp.seven hG1 h4.1, ?_⟩
  have hb : (wr.setCell ⟨gd, T, none⟩ (.bool true)).heap[gd]? = some (.cells (deads (slain dead T) 20).toArray 4 (0, 0)) := by
    rw [setCell_eq_setRow _ _ _ _ _ _ _ h5, heap_setRow_same _ _ _ _ _ _ h5, deads_slain dead hT]
  have hG2 : Grp (S9 a b (20 : Nat) none) B (200 * (60 - (r + 1))) (2 * (200 * (60 - (r + 1))) + 1) (Nine.mk a b (20 : Nat) none ks τ) ts gh [] Z (fun q => q = gd) w0 ((wr.setCell ⟨gd, T, none⟩ (.bool true)).alloc o) := hG1.lower (by omega) (by omega)
  refine (Grp.store_c hG2 (22 + (T : Int)) 1 (by omega)).mono ?_
  rintro e w2 ⟨hbo, hG3, hs⟩
  refine ⟨hbo, ⟨ks, τ.sto (22 + (T : Int)) 1, ts, gh, Z, hG3.out, ?_, ?_, h1, h2, h3, h4, ((hs0.trans hs).same gd rfl).trans hb, h6, h7⟩⟩
  · rw [sto_at τ (by omega) (by omega)]
    have := T0.slay hT
    rw [show (22 + (T : Int)).toNat = 2 + 20 + T by omega]
    exact this
  · rw [sto_at τ (by omega) (by omega)]
    exact he
/-- What the box and the free ones are is compared. -/
theorem Alo9.lists {Am Af : Option Addr} {nm cm nf cf : Nat} (h : Alo9 a b ba bn B g gd r dead nx bl fl (.slice Am nm cm) (.slice Af nf cf) w0 wr) :
    Seven a ba bn g wr ∧ Hid (Calls Try.prog 24 #[.agg (bxf a ba bn)] wr fun e w2 => ∃ A c, e = .returned (.slice A nm c) ∧ Hid (Calls Try.prog 22 #[.slice A nm c, .slice Am nm cm] w2 fun e w3 => e = .returned (.bool true) ∧ Seven a ba bn g w3 ∧
      Hid (Calls Try.prog 25 #[.agg #[.pointer (some ⟨a, 0, none⟩), .int .i64 1, .func (.func 40) #[] #[]]] w3 fun e w4 => ∃ A c, e = .returned (.slice A nf c) ∧ Hid (Calls Try.prog 22 #[.slice A nf c, .slice Af nf cf] w4 fun e w5 => e = .returned (.bool true) ∧ Hid (Alo9 a b ba bn B g gd r dead nx bl fl (.slice Am nm cm) (.slice Af nf cf) w0 w5))))) := by
  have h0 := h
  obtain ⟨ks, τ, ts, gh, Z, hG, T, he, h1, h2, h3, h4, h5, ⟨A, c, e1, l1, l2, l3⟩, ⟨A', c', e2, k1, k2, k3⟩⟩ := h.ex
  simp only [Value.slice.injEq] at e1 e2
  obtain ⟨rfl, rfl, rfl⟩ := e1
  obtain ⟨rfl, rfl, rfl⟩ := e2
  have h8 := few_of 20 (bl ++ fl) h1 (fun i hi => by have := h2 i hi; omega)
  simp only [List.length_append] at h8
  refine ⟨h0.seven, ?_⟩
  refine (BoxList_c (nn := 20) (s := bl) hG.ar.1 hG.ar.2.1 T.bx T.len T.few (by omega)).mono ?_
  rintro e w2 ⟨A2, c2, rfl, hrow, hm⟩
  refine ⟨A2, c2, rfl, ?_⟩
  have hmo := reads_of9 (hG.later hm) l3
  refine (Same_c bl A2 Am bl.length c2 cm rfl w2 (own_ints hrow) (fun k hk => hmo.2 k _ (by simp [hk])) (by omega)).mono ?_
  rintro e w3 ⟨rfl, hm3⟩
  have hG3 := (hG.later hm).later hm3
  refine ⟨rfl, Grp.seven hG3 h4.1, ?_⟩
  refine (List_c (nn := 20) (qd := 1) (s := fl) hG3.ar.1 hG3.ar.2.1 (by omega) T.fr T.len T.few (by omega)).mono ?_
  rintro e w4 ⟨A4, c4, rfl, hrow4, hm4⟩
  refine ⟨A4, c4, rfl, ?_⟩
  have hmf := reads_of9 (hG3.later hm4) k3
  refine (Same_c fl A4 Af fl.length c4 cf rfl w4 (own_ints hrow4) (fun k hk => hmf.2 k _ (by simp [hk])) (by omega)).mono ?_
  rintro e w5 ⟨rfl, hm5⟩
  exact ⟨rfl, (((h0.later hm).later hm3).later hm4).later hm5⟩
/-- The beginning. -/
theorem Alo9.begin {w w1 : World} (hA : Arena w1 a b 0 (List.replicate (2 + 2 * 20) 0)) (ha : B ≤ a) (hb : B ≤ b) (n1 : ba ≠ a) (n2 : ba ≠ b) (n3 : bn ≠ a) (n4 : bn ≠ b) (hba : w1.cell? ⟨ba, 0, none⟩ = some (.pointer (some ⟨a, 0, none⟩))) (hbn : w1.cell? ⟨bn, 0, none⟩ = some (.int .i64 ((20 : Nat) : Int))) (hB : Below B w w1) (hle : B ≤ w1.heap.size) :
    Alo9 a b ba bn B w1.heap.size (w1.heap.size + 1) 0 (fun _ => false) 0 [] [] (.slice none 0 0) (.slice none 0 0) w ((w1.alloc (.cells (bxf a ba bn) 31)).alloc (.cells (List.replicate 20 (Value.bool false)).toArray 4)) := by
  have h0 := Grp.begin9 (m := 200 * 60) (n := 2 * (200 * 60)) hA (by omega) (by omega) ha hb n1 n2 n3 n4 hba hbn hB hle
  have h1 := h0.box (w' := w1.alloc (.cells (bxf a ba bn) 31)) ((Made.refl w1).alloc (Nat.le_refl _) _) (Nat.le_refl _) (heap_alloc_new _ _)
  have h2 := h1.given (A := none) (vs := []) (fun i v hv => by simp at hv)
  have hm : Made (w1.alloc (.cells (bxf a ba bn) 31)) ((w1.alloc (.cells (bxf a ba bn) 31)).alloc (.cells (List.replicate 20 (Value.bool false)).toArray 4)) := (Made.refl _).alloc (Nat.le_refl _) _
  have h3 := h2.rescr (X := fun q => q = w1.heap.size + 1) (Wrote.of_made hm) (fun k hk => ⟨Or.inr (by rw [hk]; simp), by rw [hk]; simp⟩)
  have hd : deads (fun _ => false) 20 = List.replicate 20 (Value.bool false) := by
    unfold deads
    rfl
  have hnew := heap_alloc_new (w1.alloc (.cells (bxf a ba bn) 31)) (.cells (List.replicate 20 (Value.bool false)).toArray 4)
  simp only [World.size_alloc] at hnew
  refine ⟨[], _, [], [], _, h3, Two.empty 20 (by omega), rfl, by simp, by simp, by omega, ⟨by simp, by simp, by simp⟩, by rw [hd]; exact hnew, ⟨none, 0, rfl, Nat.le_refl _, Nat.zero_le _, by simp⟩, ⟨none, 0, rfl, Nat.le_refl _, Nat.zero_le _, by simp⟩⟩
end Go.Proofs.Ytndpkonihcebeaa.Kod.Nine
