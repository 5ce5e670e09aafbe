/- Work that is cut into steps: what a law that makes tasks, and lets them go on, has in its hands between two calls. -/
import Derived.Test.YtndpkonihcebeaaKod7
namespace Go.Proofs.Ytndpkonihcebeaa.Kod
open Go.RowKit Go.Proofs.Ytndpkonihcebeaa Go.Proofs.Ytndpkonihcebeaa.Cell
set_option linter.unusedVariables false
set_option linter.unusedSimpArgs false
variable {S : Sys}

/-- Tasks, codes that are no tasks yet (C), slices that never turn (Z), blocks that the law itself writes (own). -/
structure Grp (S : Sys) (B m n : Nat) (M : Mach S) (ts gh : List Nat) (C : List (S.K × Value)) (Z : List (Option Addr × List Value)) (own : Nat → Prop) (w0 wr : World) : Prop where
  ex : ∃ rs L, Ready S m n M rs L wr ∧ L.ts = ts ∧ L.gh = gh ∧ Old S B wr L ∧ (∀ c ∈ C, Rep S m c.1 c.2 wr L) ∧ (∀ z ∈ Z, Lies S wr L z.1 z.2) ∧ (∀ k, L.scr k ↔ own k)
  bel : Below B w0 wr
  low : ∀ k, own k → B ≤ k
variable {B m n m' n' : Nat} {M : Mach S} {ts gh : List Nat} {C : List (S.K × Value)} {Z : List (Option Addr × List Value)} {own : Nat → Prop} {w0 wr w' : World}
theorem Rep.lowers {m m' : Nat} {k : S.K} {v : Value} {w : World} {L : Lay} (h : Rep S m k v w L) (hm : m' ≤ m) : Rep S m' k v w L := by
  induction hm with
  | refl => exact h
  | step _ ih => exact ih h.lower
theorem Grp.lower (h : Grp S B m n M ts gh C Z own w0 wr) (h1 : m' ≤ m) (h2 : n' ≤ n) : Grp S B m' n' M ts gh C Z own w0 wr := by
  obtain ⟨rs, L, hr, hts, hgh, hold, hC, hZ, hscr⟩ := h.ex
  exact ⟨⟨rs, L, hr.lower h1 h2, hts, hgh, hold, fun c hc => (hC c hc).lowers h1, hZ, hscr⟩, h.bel, h.low⟩
theorem Grp.drop (h : Grp S B m n M ts gh C Z own w0 wr) {C' : List (S.K × Value)} {Z' : List (Option Addr × List Value)} (h1 : ∀ c ∈ C', c ∈ C) (h2 : ∀ z ∈ Z', z ∈ Z) : Grp S B m n M ts gh C' Z' own w0 wr := by
  obtain ⟨rs, L, hr, hts, hgh, hold, hC, hZ, hscr⟩ := h.ex
  exact ⟨⟨rs, L, hr, hts, hgh, hold, fun c hc => hC c (h1 c hc), fun z hz => hZ z (h2 z hz), hscr⟩, h.bel, h.low⟩
theorem Grp.later (h : Grp S B m n M ts gh C Z own w0 wr) (hm : Made wr w') : Grp S B m n M ts gh C Z own w0 w' := by
  obtain ⟨rs, L, hr, hts, hgh, hold, hC, hZ, hscr⟩ := h.ex
  have e := Ext.of_made (S := S) (L := L) hm
  exact ⟨⟨rs, L, hr.later hm, hts, hgh, hold.later e, fun c hc => (hC c hc).later e, fun z hz => (hZ z hz).later e, hscr⟩, h.bel.trans (hold.below e), h.low⟩
theorem Grp.bel_le (h : Grp S B m n M ts gh C Z own w0 wr) : B ≤ wr.heap.size := by
  obtain ⟨rs, L, hr, hts, hgh, hold, hC, hZ, hscr⟩ := h.ex
  exact hold.le
theorem Grp.own_lt (h : Grp S B m n M ts gh C Z own w0 wr) {k : Nat} (hk : own k) : k < wr.heap.size := by
  obtain ⟨rs, L, hr, hts, hgh, hold, hC, hZ, hscr⟩ := h.ex
  exact (hr.inv.scra k ((hscr k).2 hk)).2.2.2.2
theorem Grp.ar (h : Grp S B m n M ts gh C Z own w0 wr) : Arena wr S.a S.b M.σ.c M.σ.xs ∧ (∀ x ∈ M.σ.xs, 0 ≤ x ∧ x < 18446744073709551616) ∧ M.σ.xs.length ≤ 1048576 ∧ M.σ.c + n < 4611686018427387904 := by
  obtain ⟨rs, L, hr, hts, hgh, hold, hC, hZ, hscr⟩ := h.ex
  exact ⟨hr.inv.ar, hr.inv.wide, hr.inv.len, hr.inv.fuel⟩
theorem Grp.lens (h : Grp S B m n M ts gh C Z own w0 wr) : ts.length = M.ks.length ∧ M.σ.steps.length = M.ks.length := by
  obtain ⟨rs, L, hr, rfl, hgh, hold, hC, hZ, hscr⟩ := h.ex
  exact ⟨hr.inv.nts.trans hr.len.symm, hr.inv.nst.trans hr.len.symm⟩
theorem Grp.lie (h : Grp S B m n M ts gh C Z own w0 wr) {z : Option Addr × List Value} (hz : z ∈ Z) : ∀ (i : Nat) (v : Value), z.2[i]? = some v → ∃ d : Addr, z.1 = some d ∧ wr.cell? (d.add i) = some v := by
  obtain ⟨rs, L, hr, hts, hgh, hold, hC, hZ, hscr⟩ := h.ex
  intro i v hv
  obtain ⟨d, h1, _, _, h2⟩ := hZ z hz i v hv
  exact ⟨d, h1, h2⟩
theorem Grp.lie0 (h : Grp S B m n M ts gh C Z own w0 wr) {g : Nat} {vs : List Value} (hz : (some ⟨g, 0, none⟩, vs) ∈ Z) {i : Nat} {v : Value} (hv : vs[i]? = some v) : wr.cell? ⟨g, i, none⟩ = some v := by
  obtain ⟨d, hd, hc⟩ := h.lie hz i v hv
  obtain rfl := Option.some.inj hd
  have e : (⟨g, 0, none⟩ : Addr).add i = ⟨g, i, none⟩ := by unfold Addr.add; split <;> simp_all
  rw [e] at hc
  exact hc
/-- A slice that is new is noted. -/
theorem Grp.note {N : Nat} {E : TypeId} {v : Value} {vs : List Value} (h : Grp S B m n M ts gh C Z own w0 wr) (hm : Made wr w') (hw : w'.ownsRow wr.heap.size E 1 v N vs) :
    ∃ A c, v = .slice A N c ∧ N = vs.length ∧ N ≤ c ∧ c ≤ maxLen ∧ Grp S B m n M ts gh C ((A, vs) :: Z) own w0 w' := by
  have h' := h.later hm
  obtain ⟨rs, L, hr, hts, hgh, hold, hC, hZ, hscr⟩ := h.ex
  have e := Ext.of_made (S := S) (L := L) hm
  obtain ⟨A, c, rfl, hN, hli⟩ := owns_lies (S := S) (L := L) hw (fun k hk => hr.inv.new (hw.lt k hk).1)
  refine ⟨A, c, rfl, hN, ?_, ?_, ⟨rs, L, hr.later hm, hts, hgh, hold.later e, fun c hc => (hC c hc).later e, fun z hz => ?_, hscr⟩, h'.bel, h.low⟩
  · rcases hw.2 with ⟨h1, h2⟩ | ⟨g, cap, cur, h1, h2, h3, h4, h5, _⟩
    · simp at h1; omega
    · simp at h1; omega
  · rcases hw.2 with ⟨h1, h2⟩ | ⟨g, cap, cur, h1, h2, h3, h4, h5, _⟩
    · simp at h1; omega
    · simp at h1; omega
  · rcases List.mem_cons.1 hz with rfl | hz
    · exact hli
    · exact (hZ z hz).later e
/-- A block that is new is noted. -/
theorem Grp.box {g : Nat} {R : Array Value} {t : TypeId} {fr : Nat × Nat} (h : Grp S B m n M ts gh C Z own w0 wr) (hm : Made wr w') (hg : wr.heap.size ≤ g) (hb : w'.heap[g]? = some (.cells R t fr)) : Grp S B m n M ts gh C ((some ⟨g, 0, none⟩, R.toList) :: Z) own w0 w' := by
  have h' := h.later hm
  obtain ⟨rs, L, hr, hts, hgh, hold, hC, hZ, hscr⟩ := h.ex
  have e := Ext.of_made (S := S) (L := L) hm
  refine ⟨⟨rs, L, hr.later hm, hts, hgh, hold.later e, fun c hc => (hC c hc).later e, fun z hz => ?_, hscr⟩, h'.bel, h.low⟩
  rcases List.mem_cons.1 hz with rfl | hz
  · exact Lies.row hb (fun e => by have := hr.inv.mut_lt e; omega) (fun i v hv => by rw [Nat.zero_add]; simpa using hv)
  · exact (hZ z hz).later e
/-- What the law was handed. -/
theorem Grp.given {A : Option Addr} {vs : List Value} (h : Grp S B m n M ts gh C Z own w0 wr) (hA : ∀ (i : Nat) (v : Value), vs[i]? = some v → ∃ a : Addr, A = some a ∧ a.block < B ∧ w0.cell? (a.add i) = some v) : Grp S B m n M ts gh C ((A, vs) :: Z) own w0 wr := by
  obtain ⟨rs, L, hr, hts, hgh, hold, hC, hZ, hscr⟩ := h.ex
  refine ⟨⟨rs, L, hr, hts, hgh, hold, hC, fun z hz => ?_, hscr⟩, h.bel, h.low⟩
  rcases List.mem_cons.1 hz with rfl | hz
  · intro i v hv
    obtain ⟨a, rfl, h1, h2⟩ := hA i v hv
    have hb : (a.add i).block = a.block := by unfold Addr.add; split <;> rfl
    exact ⟨a, rfl, Nat.lt_of_lt_of_le h1 hold.le, hold.apart _ h1, (h.bel.cell (by rw [hb]; exact h1)).trans h2⟩
  · exact hZ z hz
/-- The law has written blocks of its own, and says anew which these are. -/
theorem Grp.rescr {X : Nat → Prop} (h : Grp S B m n M ts gh C Z own w0 wr) (hw : Wrote own wr w') (hX : ∀ k, X k → (own k ∨ wr.heap.size ≤ k) ∧ k < w'.heap.size) : Grp S B m n M ts gh C Z X w0 w' := by
  obtain ⟨rs, L, hr, hts, hgh, hold, hC, hZ, hscr⟩ := h.ex
  have hw' : Wrote L.scr wr w' := hw.mono fun k _ hk => (hscr k).2 hk
  have hX' : ∀ k, X k → (L.scr k ∨ wr.heap.size ≤ k) ∧ k < w'.heap.size := fun k hk => ⟨(hX k hk).1.imp (fun h => (hscr k).2 h) id, (hX k hk).2⟩
  have e := Ext.rescr (S := S) (L := L) hw' (X := X) (fun k hk => (hX' k hk).1)
  refine ⟨⟨rs, _, hr.rescr hw' hX', hts, hgh, hold.rescr hw' (fun k hk => (hX' k hk).1), fun c hc => (hC c hc).later e, fun z hz => (hZ z hz).later e, fun k => Iff.rfl⟩, h.bel.trans (hold.below e), fun k hk => ?_⟩
  rcases (hX k hk).1 with h1 | h1
  · exact h.low k h1
  · exact Nat.le_trans hold.le h1
/-- A slice of the law's own is written no more. -/
theorem Grp.seal {X : Nat → Prop} {N : Nat} {E : TypeId} {v : Value} {vs : List Value} {B' : Nat} (h : Grp S B m n M ts gh C Z own w0 wr) (hv : wr.ownsRow B' E 1 v N vs) (hB : B ≤ B') (ho : ∀ k, v.ownBlock = some k → own k) (hX : ∀ k, X k → own k) (hn : ∀ k, v.ownBlock = some k → ¬ X k) :
    ∃ A c, v = .slice A N c ∧ N = vs.length ∧ N ≤ c ∧ c ≤ maxLen ∧ Grp S B m n M ts gh C ((A, vs) :: Z) X w0 wr := by
  obtain ⟨rs, L, hr, hts, hgh, hold, hC, hZ, hscr⟩ := h.ex
  have hw' : Wrote L.scr wr wr := Wrote.of_made (Made.refl _)
  have hX' : ∀ k, X k → (L.scr k ∨ wr.heap.size ≤ k) ∧ k < wr.heap.size := fun k hk => ⟨Or.inl ((hscr k).2 (hX k hk)), h.own_lt (hX k hk)⟩
  have e := Ext.rescr (S := S) (L := L) hw' (X := X) (fun k hk => (hX' k hk).1)
  have hap : ∀ k, v.ownBlock = some k → ¬ Mut S { L with scr := X } k := fun k hk e => by
    have h1 := hr.inv.scra k ((hscr k).2 (ho k hk))
    rcases e with e | e | e | e | e
    · exact h1.1 e
    · exact h1.2.1 e
    · exact h1.2.2.1 e
    · exact h1.2.2.2.1 e
    · exact hn k hk e
  obtain ⟨A, c, rfl, hN, hli⟩ := owns_lies (S := S) (L := { L with scr := X }) hv hap
  refine ⟨A, c, rfl, hN, ?_, ?_, ⟨rs, _, hr.rescr hw' hX', hts, hgh, hold.rescr hw' (fun k hk => (hX' k hk).1), fun c hc => (hC c hc).later e, fun z hz => ?_, fun k => Iff.rfl⟩, h.bel, fun k hk => h.low k (hX k hk)⟩
  · rcases hv.2 with ⟨h1, h2⟩ | ⟨g, cap, cur, h1, h2, h3, h4, h5, _⟩
    · simp at h1; omega
    · simp at h1; omega
  · rcases hv.2 with ⟨h1, h2⟩ | ⟨g, cap, cur, h1, h2, h3, h4, h5, _⟩
    · simp at h1; omega
    · simp at h1; omega
  · rcases List.mem_cons.1 hz with rfl | hz
    · exact hli
    · exact (hZ z hz).later e

/-- The law's own blocks are untouched, and nothing is lost. -/
structure Same (own : Nat → Prop) (w w' : World) : Prop where
  same : ∀ k, own k → w'.heap[k]? = w.heap[k]?
  size : w.heap.size ≤ w'.heap.size
theorem Same.refl {own : Nat → Prop} {w : World} : Same own w w := ⟨fun _ _ => rfl, Nat.le_refl _⟩
theorem Same.trans {own : Nat → Prop} {u v w : World} (h : Same own u v) (k : Same own v w) : Same own u w := ⟨fun i hi => (k.same i hi).trans (h.same i hi), Nat.le_trans h.size k.size⟩
theorem Grp.same_made (h : Grp S B m n M ts gh C Z own w0 wr) (hm : Made wr w') : Same own wr w' := ⟨fun k hk => hm.block k (h.own_lt hk), hm.size⟩
theorem Same.row {own : Nat → Prop} {w w' : World} {B' N : Nat} {v : Value} {E : TypeId} {vs : List Value} (h : Same own w w') (ho : ∀ k, v.ownBlock = some k → own k) (hr : w.ownsRow B' E 1 v N vs) : w'.ownsRow B' E 1 v N vs := by
  obtain ⟨h0, h1⟩ := hr
  refine ⟨h0, ?_⟩
  rcases h1 with h1 | ⟨g, cap, cur, rfl, hb, hg, hr⟩
  · exact Or.inl h1
  · exact Or.inr ⟨g, cap, cur, rfl, hb, (h.same g (ho g rfl)).trans hg, hr⟩
/-- What a call that lets tasks go on gives. -/
theorem Grp.ran {rs' : List Value} {L L' : Lay} {M' : Mach S} {rs : List Value} (hr : Ready S m n M rs L wr) (hts : L.ts = ts) (hgh : L.gh = gh) (hold : Old S B wr L) (hC : ∀ c ∈ C, Rep S m c.1 c.2 wr L) (hZ : ∀ z ∈ Z, Lies S wr L z.1 z.2) (hscr : ∀ k, L.scr k ↔ own k) (hbel : Below B w0 wr) (hlow : ∀ k, own k → B ≤ k)
    (e : Ext S wr L w' L') (k : Keeps wr L w' L') (hr' : Ready S m' n' M' rs' L' w') (hm : m' ≤ m) : Grp S B m' n' M' ts gh C Z own w0 w' ∧ Same own wr w' :=
  ⟨⟨⟨rs', L', hr', k.ts.trans hts, k.gh.trans hgh, hold.later e, fun c hc => ((hC c hc).lowers hm).later e, fun z hz => (hZ z hz).later e, fun q => by rw [k.scr]; exact hscr q⟩, hbel.trans (hold.below e), hlow⟩, ⟨fun q hq => k.same q ((hscr q).2 hq), e.size⟩⟩
/-- New. -/
theorem Grp.new_c {k : S.K} {v : Value} (h : Grp S B m n M ts gh C Z own w0 wr) (hv : (k, v) ∈ C) :
    Calls Try.prog 14 #[v] wr fun e w2 => e = .returned (.pointer (some ⟨wr.heap.size, 0, none⟩)) ∧ Made wr w2 ∧ wr.heap.size < w2.heap.size ∧ Hid (Grp S B m n { ks := M.ks ++ [k], σ := { M.σ with steps := M.σ.steps ++ [0] } } (ts ++ [wr.heap.size]) gh C Z own w0 w2) := by
  have hbel := h.bel
  have hlow := h.low
  obtain ⟨rs, L, hr, hts, hgh, hold, hC, hZ, hscr⟩ := h.ex
  have hp := hC _ hv
  refine (New_c hp.func).mono ?_
  rintro e w2 ⟨rfl, rfl⟩
  have hm : Made wr (wr.alloc (.cells #[v, .int .i64 0] 108)) := (Made.refl _).alloc (Nat.le_refl _) _
  have e2 := Ext.addtask (S := S) (w := wr) (L := L) v
  refine ⟨rfl, hm, by simp only [World.size_alloc]; omega, ⟨⟨_, _, hr.addtask hp, ?_, hgh, hold.later e2, fun c hc => (hC c hc).later e2, fun z hz => (hZ z hz).later e2, hscr⟩, hbel.trans (hold.below e2), hlow⟩⟩
  show L.ts ++ [wr.heap.size] = _
  rw [hts]
/-- Ended. -/
theorem Grp.ended_c {i t : Nat} (h : Grp S B m n M ts gh C Z own w0 wr) (ht : ts[i]? = some t) : Calls Try.prog 52 #[.pointer (some ⟨t, 0, none⟩)] wr fun e w' => e = .returned (.bool (M.over i)) ∧ wr = w' := by
  obtain ⟨rs, L, hr, rfl, hgh, hold, hC, hZ, hscr⟩ := h.ex
  obtain ⟨k, v, s, h1, h2, h3, h4, h5⟩ := hr.at ht
  rw [over_at h1]
  exact Ended_c hr ht h1
/-- Finish. -/
theorem Grp.finish_c {i t N : Nat} (h : Grp S B (m + N) (n + 2 * N) M ts gh C Z own w0 wr) (ht : ts[i]? = some t) (most : Int) (hN : ∀ j : Nat, (j : Int) < most → (M.fin i j).over i = false → j < N) (hcan : ∀ j : Nat, (j : Int) < most → (M.fin i j).can i) :
    Calls Try.prog 18 #[.pointer (some ⟨t, 0, none⟩), .int .i64 most] wr fun e w' => e = .returned (.bool ((M.fin i most.toNat).over i)) ∧ Hid (Grp S B m n (M.fin i most.toNat) ts gh C Z own w0 w') ∧ Same own wr w' := by
  have hbel := h.bel
  have hlow := h.low
  obtain ⟨rs, L, hr, rfl, hgh, hold, hC, hZ, hscr⟩ := h.ex
  refine (Finish_c hr ht most hN hcan).mono ?_
  rintro e w' ⟨rs', L', rfl, hx, hk, hr'⟩
  obtain ⟨g1, g2⟩ := Grp.ran hr rfl hgh hold hC hZ hscr hbel hlow hx hk hr' (by omega)
  exact ⟨rfl, g1, g2⟩
/-- Run. -/
theorem Grp.run_c (ps : List Int) (h : Grp S B (m + ps.length) (n + 2 * ps.length) M ts gh C Z own w0 wr) {A A' : Option Addr} {N N' c c' : Nat} (hN : Hid (N = ts.length)) (hN' : Hid (N' = ps.length)) (hn : (N : Int) ≤ 9223372036854775807)
    (hl : (A, ptrs ts) ∈ Z) (hp : (A', ps.map (.int .i64)) ∈ Z) (hcan : ∀ k : Nat, k < ps.length → ∀ i, (M.run (ps.take k)).1.can i) :
    Calls Try.prog 17 #[.slice A N c, .slice A' N' c'] wr fun e w' => e = .returned (.int .i64 (M.run ps).2) ∧ Hid (Grp S B m n (M.run ps).1 ts gh C Z own w0 w') ∧ Same own wr w' := by
  have hbel := h.bel
  have hlow := h.low
  obtain ⟨rs, L, hr, rfl, hgh, hold, hC, hZ, hscr⟩ := h.ex
  refine (Run_c ps hr hN hN' hn (hZ _ hl) (hZ _ hp) hcan).mono ?_
  rintro e w' ⟨rs', L', rfl, hx, hk, hr'⟩
  obtain ⟨g1, g2⟩ := Grp.ran hr rfl hgh hold hC hZ hscr hbel hlow hx hk hr' (by omega)
  exact ⟨rfl, g1, g2⟩
/-- How many accesses there were. -/
theorem Grp.count_c (h : Grp S B m n M ts gh C Z own w0 wr) : Calls Try.prog 26 #[.pointer (some ⟨S.a, 0, none⟩)] wr fun e w' => e = .returned (.int .i64 M.σ.c) ∧ wr = w' := Cell.Count_c h.ar.1
end Go.Proofs.Ytndpkonihcebeaa.Kod
