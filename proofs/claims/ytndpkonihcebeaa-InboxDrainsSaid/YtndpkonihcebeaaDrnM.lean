/- InboxDrains: tasks are made. -/
import Derived.Test.YtndpkonihcebeaaDrn9
namespace Go.Proofs.Ytndpkonihcebeaa.Kod.Nine
open Go.RowKit Go.Proofs.Ytndpkonihcebeaa Go.Proofs.Ytndpkonihcebeaa.Cell Go.Proofs.Ytndpkonihcebeaa.Wd
set_option linter.unusedVariables false
set_option linter.unusedSimpArgs false

/-- Codes are made: i of those who put, and tell of it. -/
structure Mid9d (a b gE ba bn B g ob bD : Nat) (ms : List Nat) (i : Nat) (tv : Value) (zs : List (Option Addr × List Value)) (w0 wr : World) : Prop where
  ex : ∃ ts tb Z, Grp (S9 a b (20 : Nat) (some gE)) B 4000 12000 (Nine.mk a b (20 : Nat) (some gE) (kmt (kdr 0 1) ms i) ⟨0, List.replicate (2 + 2 * 20) 0, List.replicate (i + 1) 0, ⟨[([], [])], []⟩⟩) ts [ob] [] Z (fun q => tv.ownBlock = some q) w0 wr ∧ Bx9 a ba bn g Z ∧ (∀ z ∈ zs, z ∈ Z) ∧ wr.ownsRow B 37 1 tv (i + 1) (ptrs ts) ∧ (some (⟨bD, 0, none⟩ : Addr), [Value.pointer (some ⟨tb, 0, none⟩)]) ∈ Z ∧ ts[0]? = some tb
variable {a b gE ba bn B g ob bD i : Nat} {ms : List Nat} {tv : Value} {zs : List (Option Addr × List Value)} {w0 wr w' : World}
theorem Mid9d.seven (h : Mid9d a b gE ba bn B g ob bD ms i tv zs w0 wr) : Seven a ba bn g wr := by
  obtain ⟨ts, tb, Z, hG, hb, _⟩ := h.ex
  exact Grp.seven hG hb.1
theorem Mid9d.le (h : Mid9d a b gE ba bn B g ob bD ms i tv zs w0 wr) : B ≤ wr.heap.size ∧ Below B w0 wr := by
  obtain ⟨ts, tb, Z, hG, _⟩ := h.ex
  exact ⟨hG.bel_le, hG.bel⟩
theorem Mid9d.note {c m : Nat} {A : Option Addr} {l : List Int} (h : Mid9d a b gE ba bn B g ob bD ms i tv [] w0 w') (hk : Grw w' wr A c m l) : Mid9d a b gE ba bn B g ob bD ms i tv [(A, l.map (.int .i64))] w0 wr ∧ m ≤ c ∧ c ≤ maxLen := by
  obtain ⟨ts, tb, Z, hG, hb, hz, h1, h2, h3⟩ := h.ex
  obtain ⟨A', c', e, -, q1, q2, hG2⟩ := hG.note hk.bel hk.row
  simp only [Value.slice.injEq] at e
  obtain ⟨rfl, -, rfl⟩ := e
  have hs := hG.same_made hk.bel
  refine ⟨⟨ts, tb, _, hG2, hb.mono fun z hz => List.mem_cons_of_mem _ hz, fun z hz => ?_, hs.row (fun k hk => hk) h1, List.mem_cons_of_mem _ h2, h3⟩, q1, q2⟩
  obtain rfl := List.mem_singleton.1 hz
  exact List.mem_cons_self
/-- A code more, a task more. -/
theorem Mid9d.puts {At : Option Addr} {nt ct c m : Nat} {A : Option Addr} (hi : i < 4) (hm : ∀ j, ms.getD j 0 ≤ 5) (hmi : m = ms.getD i 0) (hc : m ≤ c ∧ c ≤ maxLen) (h : Mid9d a b gE ba bn B g ob bD ms i (.slice At nt ct) [(A, (mine ms i).map (.int .i64))] w0 wr) :
    Seven a ba bn g wr ∧ Hid (Calls Try.prog 16 #[.agg (bxf a ba bn), .slice A m c, .func (.func 19) #[] #[.pointer (some ⟨bD, 0, none⟩), .pointer (some ⟨gE, 0, none⟩)]] wr fun e w2 => ∃ v, e = .returned v ∧ (v = .nilFunc ∨ ∃ f cap, v = .func (.func f) #[] cap) ∧
      Hid (Calls Try.prog 14 #[v] w2 fun e w3 => ∃ tb ts, e = .returned (.pointer (some ⟨tb, 0, none⟩)) ∧ Hid (w3.ownsRow B 37 1 (.slice At nt ct) (i + 1) ts) ∧ B ≤ w3.heap.size ∧
        Hid (∀ (o : Obj) (A2 : Option Addr) (c2 : Nat) (w4 : World), w4.ownsRow B 37 1 (.slice A2 (i + 1 + 1) c2) (i + 1 + 1) (ts ++ [.pointer (some ⟨tb, 0, none⟩)]) → (w3.alloc o).grownBy w4 (Value.slice At nt ct).ownBlock → ((Value.slice A2 (i + 1 + 1) c2).ownBlock = (Value.slice At nt ct).ownBlock ∨ (Value.slice A2 (i + 1 + 1) c2).ownBlock = some (w3.alloc o).heap.size) →
          Mid9d a b gE ba bn B g ob bD ms (i + 1) (.slice A2 (i + 1 + 1) c2) [] w0 w4))) := by
  obtain ⟨ts, tb0, Z, hG, hb, hz, h1, h2, h3⟩ := h.ex
  have ml : maxLen ≤ 9223372036854775807 := by unfold maxLen; omega
  have hml := hm i
  have hts0 : 0 < ts.length := (List.getElem?_eq_some_iff.1 h3).1
  refine ⟨Grp.seven hG hb.1, ?_⟩
  refine (Grp.puts9d (N := m) (c := c) (ba := ba) (bn := bn) (l := mine ms i) hG (Lib.hid (by rw [hmi]; exact (nums9_len _ _).symm)) hc.1 (by omega) (hz _ List.mem_cons_self) hb.2.1 hb.2.2 h2 h3 (fun t ht => by have := nums9_mem ht; omega)).mono ?_
  rintro e w2 ⟨v, rfl, hv, hG2, hs2⟩
  refine ⟨v, rfl, hv, ?_⟩
  refine (Grp.new_c hG2.out List.mem_cons_self).mono ?_
  rintro e w3 ⟨rfl, hm3, hsz3, hG3⟩
  have hs3 := hs2.trans (hG2.out.same_made hm3)
  have h13 := hs3.row (fun k hk => hk) h1
  refine ⟨_, ptrs ts, rfl, h13, hG3.out.bel_le, ?_⟩
  intro o A2 c2 w4 hown hgrow hat
  have hmo : Made w3 (w3.alloc o) := (Made.refl _).alloc (Nat.le_refl _) _
  have hG4 := hG3.out.later hmo
  have hs4 := hG3.out.same_made hmo
  have h14 := hs4.row (fun k hk => hk) h13
  have hsz := hgrow.size
  have hks := kmt_succ (kdr 0 1) ms i
  have hG5 := (hG4.drop (C' := []) (fun c hc => by simp at hc) (fun z hz => hz)).rescr (w' := w4) (X := fun q => (Value.slice A2 (i + 1 + 1) c2).ownBlock = some q) ((Wrote.of_grown hgrow).mono fun k _ hk => hk) (fun k hk => by
    refine ⟨?_, (hown.lt k hk).2⟩
    rcases hat with e | e
    · exact Or.inl (e.symm.trans hk)
    · right
      have := e.symm.trans hk
      simp only [Option.some.injEq] at this
      omega)
  refine ⟨ts ++ [w2.heap.size], tb0, Z, ?_, hb, fun z hz => by simp at hz, ?_, h2, ?_⟩
  · have e2 : (List.replicate (i + 1) 0 ++ [0] : List Nat) = List.replicate (i + 1 + 1) 0 := (List.replicate_succ' (n := i + 1) (a := 0)).symm
    rw [← hks, ← e2]
    exact hG5
  · simp only [ptrs, List.map_append, List.map_cons, List.map_nil] at hown ⊢
    exact hown
  · rw [List.getElem?_append_left hts0]
    exact h3
/-- A block that is there is noted at the beginning. -/
theorem Mid9d.start {w1 : World} (hA : Arena w1 a b 0 (List.replicate (2 + 2 * 20) 0)) (ha : B ≤ a) (hb : B ≤ b) (n1 : ba ≠ a) (n2 : ba ≠ b) (n3 : bn ≠ a) (n4 : bn ≠ b) (hba : w1.cell? ⟨ba, 0, none⟩ = some (.pointer (some ⟨a, 0, none⟩))) (hbn : w1.cell? ⟨bn, 0, none⟩ = some (.int .i64 ((20 : Nat) : Int))) (hB : Below B w0 w1) (hle : B ≤ w1.heap.size) (ms : List Nat) :
    Seven a ba bn w1.heap.size (((w1.alloc (.cells (bxf a ba bn) 31)).alloc (.cells #[.slice none 0 0] 23)).alloc (.cells #[.slice none 0 0, .slice none 0 0] 36)) ∧
    Hid (Calls Try.prog 15 #[.agg (bxf a ba bn), .int .i64 1, .pointer (some ⟨w1.heap.size + 1 + 1, 0, none⟩)] (((w1.alloc (.cells (bxf a ba bn) 31)).alloc (.cells #[.slice none 0 0] 23)).alloc (.cells #[.slice none 0 0, .slice none 0 0] 36)) fun e w2 => ∃ v, e = .returned v ∧ (v = .nilFunc ∨ ∃ f cap, v = .func (.func f) #[] cap) ∧
      Hid (Calls Try.prog 14 #[v] w2 fun e w3 => ∃ tb, e = .returned (.pointer (some ⟨tb, 0, none⟩)) ∧
        Hid (Mid9d a b (w1.heap.size + 1) ba bn B w1.heap.size (w1.heap.size + 1 + 1) w3.heap.size ms 0 (.slice (some ⟨w3.heap.size + 1, 0, none⟩) 1 1) [] w0 ((w3.alloc (.cells #[.pointer (some ⟨tb, 0, none⟩)] 37)).alloc (.cells #[.pointer (some ⟨tb, 0, none⟩)] 37))))) := by
  have m1 : Made w1 (w1.alloc (.cells (bxf a ba bn) 31)) := (Made.refl w1).alloc (Nat.le_refl _) _
  have m2 : Made (w1.alloc (.cells (bxf a ba bn) 31)) ((w1.alloc (.cells (bxf a ba bn) 31)).alloc (.cells #[.slice none 0 0] 23)) := (Made.refl _).alloc (Nat.le_refl _) _
  have m12 := Made.trans m1 m2
  have la := lt_of_at hA.ha
  have lb := lt_of_at hA.hb
  have lba := Go.block_lt_of_cell hba
  have lbn := Go.block_lt_of_cell hbn
  simp only at lba lbn
  have hE := heap_alloc_new (w1.alloc (.cells (bxf a ba bn) 31)) (.cells #[.slice none 0 0] 23)
  simp only [World.size_alloc] at hE
  have hbx : ((w1.alloc (.cells (bxf a ba bn) 31)).alloc (.cells #[.slice none 0 0] 23)).heap[w1.heap.size]? = some (.cells (bxf a ba bn) 31 (0, 0)) := (heap_alloc_old _ _ (by simp)).trans (heap_alloc_new _ _)
  have h0 := Grp.begin9e (m := 4000) (n := 12000) (gE := w1.heap.size + 1) (nn := 20) (T := 23) (hA.later m12) (by omega) (by omega) ha hb n1 n2 n3 n4 (by omega) (by omega) (by omega) (by omega) (by omega) ((m12.cell lba).trans hba) ((m12.cell lbn).trans hbn) hE (by decide) hbx (by omega) (by omega) (by omega) (Below.trans hB (Below.mono m12 hle)) (by simp; omega)
  have h2 := (Grp.owner9 h0 (w' := ((w1.alloc (.cells (bxf a ba bn) 31)).alloc (.cells #[.slice none 0 0] 23)).alloc (.cells #[.slice none 0 0, .slice none 0 0] 36)) ((Made.refl _).alloc (Nat.le_refl _) _) (Nat.le_refl _) (heap_alloc_new _ _)).1
  simp only [World.size_alloc] at h2
  refine ⟨Grp.seven h2 (by simp), ?_⟩
  refine (Grp.drains9 (o := 0) (k := 1) (ba := ba) (bn := bn) h2 rfl (by omega)).mono ?_
  rintro e w2 ⟨v, rfl, hv, hG2, hs2⟩
  refine ⟨v, rfl, hv, ?_⟩
  refine (Grp.new_c hG2.out List.mem_cons_self).mono ?_
  rintro e w3 ⟨rfl, hm3, hsz3, hG3⟩
  refine ⟨_, rfl, ?_⟩
  have hmo : Made w3 (w3.alloc (.cells #[.pointer (some ⟨w2.heap.size, 0, none⟩)] 37)) := (Made.refl _).alloc (Nat.le_refl _) _
  have hG3b := hG3.out.box hmo (Nat.le_refl _) (heap_alloc_new w3 (.cells #[.pointer (some ⟨w2.heap.size, 0, none⟩)] 37))
  have hmo2 : Made (w3.alloc (.cells #[.pointer (some ⟨w2.heap.size, 0, none⟩)] 37)) ((w3.alloc (.cells #[.pointer (some ⟨w2.heap.size, 0, none⟩)] 37)).alloc (.cells #[.pointer (some ⟨w2.heap.size, 0, none⟩)] 37)) := (Made.refl _).alloc (Nat.le_refl _) _
  have hG4 := (hG3b.drop (C' := []) (fun c hc => by simp at hc) (fun z hz => hz)).rescr (X := fun q => (Value.slice (some ⟨w3.heap.size + 1, 0, none⟩) 1 1).ownBlock = some q) (Wrote.of_made hmo2) (fun k hk => by
    obtain rfl : w3.heap.size + 1 = k := by simpa [Value.ownBlock] using hk
    exact ⟨Or.inr (by simp), by simp⟩)
  have hB3 := hG3b.bel_le
  refine ⟨[w2.heap.size], w2.heap.size, _, hG4, ⟨by simp, by simp, by simp⟩, fun z hz => by simp at hz, ?_, List.mem_cons_self, rfl⟩
  have hrow := World.ownsRow_lit (e := 37) (base := B) (size := 1) (w3.alloc (.cells #[.pointer (some ⟨w2.heap.size, 0, none⟩)] 37)) #[.pointer (some ⟨w2.heap.size, 0, none⟩)] 1 hB3 (by unfold maxLen; omega) (by simp)
  simp only [World.size_alloc] at hrow
  exact hrow
/-- Picks, and the end of the Drain. -/
theorem Mid9d.go {At A2 : Option Addr} {nt ct n2 c2 : Nat} (hm : ∀ j, ms.getD j 0 ≤ 5) (ps : List Int) (hps : ps.length ≤ 400) (h : Mid9d a b gE ba bn B g ob bD ms 4 (.slice At nt ct) [] w0 wr) (hp : ∀ (i : Nat) (v : Value), (ps.map (Value.int .i64))[i]? = some v → ∃ d : Addr, A2 = some d ∧ d.block < B ∧ w0.cell? (d.add i) = some v) (hn : Hid (n2 = ps.length)) :
    nt = 5 ∧ Hid (Calls Try.prog 17 #[.slice At nt ct, .slice A2 n2 c2] wr fun e w2 => (∃ z, e = .returned (.int .i64 z)) ∧ ∃ tb, w2.cell? ⟨bD, 0, none⟩ = some (.pointer (some ⟨tb, 0, none⟩)) ∧
      Hid (Calls Try.prog 18 #[.pointer (some ⟨tb, 0, none⟩), .int .i64 300] w2 fun e w3 => e = .returned (.bool true) ∧ ∃ (ended got : List Int) (Ae : Option Addr) (ce : Nat) (Ag : Option Addr) (cg : Nat), w3.cell? ⟨gE, 0, none⟩ = some (.slice Ae ended.length ce) ∧ Hid (Reads w3 Ae ended.length (ended.map (.int .i64))) ∧
        w3.cell? ⟨ob, 0, none⟩ = some (.slice Ag got.length cg) ∧ Hid (Reads w3 Ag got.length (got.map (.int .i64))) ∧ Hid (∀ x ∈ ended, x ∈ got) ∧ ended.length ≤ maxLen ∧ got.length ≤ 20 ∧ Hid (Below B w0 w3))) := by
  obtain ⟨ts, tb, Z, hG, hb, hz, h1, h2, h3⟩ := h.ex
  obtain ⟨d1, d2, d3, d4⟩ := row_dims9 h1
  obtain ⟨A1, c1, e1, f1, f2, f3, hG1⟩ := Grp.seal (X := fun _ => False) hG h1 (Nat.le_refl _) (fun k hk => hk) (fun k hk => hk.elim) (fun k hk e => e)
  simp only [Value.slice.injEq] at e1
  obtain ⟨rfl, rfl, rfl⟩ := e1
  have hl : ts.length = 5 := by have := d2; simp [ptrs] at this; omega
  refine ⟨rfl, ?_⟩
  have hG2 := hG1.given (A := A2) (vs := ps.map (Value.int .i64)) hp
  refine (keepDrn.run_c ps (m := 250) (n := 2 * 250) (N := 250) (hG2.lower (by omega) (by omega)) ((Many9.zerot ms hm 1 4000 (by omega) _).lower (by omega)) drn_start (c1 := ct) (c2 := c2) (Lib.hid hl.symm) hn (by omega) (List.mem_cons_of_mem _ List.mem_cons_self) List.mem_cons_self).mono ?_
  rintro e w2 ⟨hzz, A', ks', τ', hG3, hM', hI', hlen, hc, hsl, _⟩
  have hlen5 : ks'.length = 5 := hlen.trans (by simp [kmt])
  obtain ⟨k0, hk0⟩ : ∃ k, ks'[0]? = some k := ⟨_, List.getElem?_eq_getElem (by omega)⟩
  refine ⟨hzz, tb, hG3.out.lie0 (i := 0) (List.mem_cons_of_mem _ (List.mem_cons_of_mem _ h2)) rfl, ?_⟩
  refine (keepDrn.finish_c (m := 0) (n := 0) (N := 0) (p := 0) (most := 300) (hG3.out.lower (by omega) (by omega)) (hM'.lower (by omega)) hI' h3 hk0 (by rw [hI'.left k0 hk0]; omega) (by omega)).mono ?_
  rintro e w3 ⟨rfl, A3, τ3, hG4, hM4, hI4, _⟩
  obtain ⟨Ae, ce, q1, q2, q3⟩ := Grp.ended9 hG4.out
  obtain ⟨Ag, cg, A5, c5, r1, r2, r3, r4⟩ := Grp.got9 (o := 0) (g := ob) (y := (A3.got, A3.ends)) hG4.out rfl (by rw [hM4.own]; rfl)
  have hdone := List.getElem?_set_self (a := K9.done) (show 0 < ks'.length by omega)
  have hcn := hM4.counts
  refine ⟨rfl, τ3.r.ended, A3.got, Ae, ce, Ag, cg, q1, q2, r1, reads_own r3, ?_, q3, by omega, hG4.out.bel⟩
  intro x hx
  rw [hM4.ended] at hx
  exact (hI4.ph _ hdone).2.2.2 rfl x hx
end Go.Proofs.Ytndpkonihcebeaa.Kod.Nine
