/- InboxDrains: what holds while tasks are made, and go on. -/
import Derived.Test.YtndpkonihcebeaaDone9
namespace Go.Proofs.Ytndpkonihcebeaa.Kod.Nine
open Go.RowKit Go.Proofs.Ytndpkonihcebeaa Go.Proofs.Ytndpkonihcebeaa.Cell Go.Proofs.Ytndpkonihcebeaa.Wd
set_option linter.unusedVariables false
set_option linter.unusedSimpArgs false

/-- Nobody is dead; what Puts were told that had ended ahead of the first step is in the box, or taken out. -/
structure Drn9 (A : Ab9) (ks : List K9) (τ : St R9) : Prop where
  left : ∀ k, ks[0]? = some k → Nine.left k = 0
  live : ∀ i : Int, 0 ≤ i → ¬ τ.xs.getD (22 + i).toNat 0 = 1
  pos : 0 < τ.steps.length
  ph : ∀ k, ks[0]? = some k → (τ.steps.getD 0 0 = 0 → phase k = 0) ∧ (phase k = 0 → ∀ x ∈ A.ended, x ∈ A.bl) ∧ (phase k = 1 → ∀ x ∈ A.ended, x ∈ A.got ++ A.rl) ∧ (phase k = 2 → ∀ x ∈ A.ended, x ∈ A.got)
theorem bump_zero {τ : St R9} (h : 0 < τ.steps.length) : ¬ (bump τ 0).steps.getD 0 0 = 0 := by
  unfold bump
  simp only
  rw [List.getD_eq_getElem?_getD, List.getElem?_set_self h]
  simp
theorem bump_other {τ : St R9} {p : Nat} (h : p ≠ 0) : (bump τ p).steps.getD 0 0 = τ.steps.getD 0 0 := by
  unfold bump
  simp only
  rw [List.getD_eq_getElem?_getD, List.getElem?_set_ne h, ← List.getD_eq_getElem?_getD]
theorem keepDrn {all : List Int} : Keep9 all Drn9 := ⟨fun {N p A A' ks τ σ' k k'} M hI hk tr h1 h2 => by
  have hp := (List.getElem?_eq_some_iff.1 hk).1
  have hlive : ∀ i : Int, 0 ≤ i → ¬ σ'.xs.getD (22 + i).toNat 0 = 1 := fun i hi => by rw [h2 i hi]; exact hI.live i hi
  have hpos : 0 < σ'.steps.length := by rw [h1]; unfold bump; simpa using hI.pos
  have hput : ∀ k0, k = k0 → Pu k0 → k0 ≠ .done → p ≠ 0 := fun k0 e h hn e0 => by
    subst e0
    have hd := M.dr k hk
    rw [e] at hd
    cases k0 <;> first | exact hn rfl | exact hd.elim | exact h.elim
  have hdr : ∀ k0, k = k0 → ¬ Pu k0 → p = 0 := fun k0 e h => by
    cases p with
    | zero => rfl
    | succ p =>
      have := M.pu p k hk
      rw [e] at this
      exact absurd this h
  have hleft : ∀ k2, (ks.set p k')[0]? = some k2 → Nine.left k2 = 0 := fun k2 h3 => by
    by_cases hp0 : p = 0
    · subst hp0
      simp [hp] at h3
      subst h3
      have h4 := tr.left
      have h5 := hI.left k hk
      omega
    · rw [List.getElem?_set_ne hp0] at h3
      exact hI.left k2 h3
  have hz : ∀ k2, p ≠ 0 → (ks.set p k')[0]? = some k2 → ks[0]? = some k2 ∧ (σ'.steps.getD 0 0 = 0 → phase k2 = 0) := fun k2 hp0 h3 => by
    rw [List.getElem?_set_ne hp0] at h3
    exact ⟨h3, fun h4 => (hI.ph k2 h3).1 (by rw [h1, bump_other hp0] at h4; exact h4)⟩
  have h0 : ∀ k2, p = 0 → (ks.set p k')[0]? = some k2 → k' = k2 ∧ (σ'.steps.getD 0 0 = 0 → phase k2 = 0) := fun k2 e h3 => by
    subst e
    simp [hp] at h3
    exact ⟨h3, fun h4 => by rw [h1] at h4; exact absurd h4 (bump_zero hI.pos)⟩
  cases tr with
  | stay h hph hl ht =>
    refine ⟨hleft, hlive, hpos, fun k2 h3 => ?_⟩
    by_cases hp0 : p = 0
    · obtain ⟨rfl, h4⟩ := h0 k2 hp0 h3
      subst hp0
      rw [hph] at h4 ⊢
      exact ⟨h4, (hI.ph k hk).2⟩
    · obtain ⟨h4, h5⟩ := hz k2 hp0 h3
      exact ⟨h5, (hI.ph k2 h4).2⟩
  | @put d t l h A e he =>
    have hp0 := hput _ rfl trivial (by simp)
    refine ⟨hleft, hlive, hpos, fun k2 h3 => ?_⟩
    obtain ⟨h4, h5⟩ := hz k2 hp0 h3
    obtain ⟨u1, u2, u3, u4⟩ := hI.ph k2 h4
    refine ⟨h5, fun h6 x hx => ?_, fun h6 => ?_, fun h6 => ?_⟩
    · rcases he with rfl | ⟨rfl, _⟩
      · exact List.mem_cons_of_mem _ (u2 h6 x hx)
      · rcases List.mem_append.1 hx with hx | hx
        · exact List.mem_cons_of_mem _ (u2 h6 x hx)
        · obtain rfl := List.mem_singleton.1 hx
          exact List.mem_cons_self
    · rcases he with rfl | ⟨_, _, h7⟩
      · exact u3 h6
      · have := u1 h7; omega
    · rcases he with rfl | ⟨_, _, h7⟩
      · exact u4 h6
      · have := u1 h7; omega
  | @help d t l h x i A b hb hd =>
    have hi := (M.bx.mem i (by rw [hb]; exact List.mem_cons_self)).1
    exact absurd hd (hI.live i hi)
  | @free d t l h i A =>
    have hp0 := hput _ rfl trivial (by simp)
    refine ⟨hleft, hlive, hpos, fun k2 h3 => ?_⟩
    obtain ⟨h4, h5⟩ := hz k2 hp0 h3
    exact ⟨h5, (hI.ph k2 h4).2⟩
  | @take o n h f A hr =>
    have hp0 := hdr _ rfl (fun e => e.elim)
    refine ⟨hleft, hlive, hpos, fun k2 h3 => ?_⟩
    obtain ⟨rfl, h4⟩ := h0 k2 hp0 h3
    subst hp0
    refine ⟨h4, fun h6 => by simp [phase] at h6, fun _ x hx => List.mem_append_right _ ((hI.ph _ hk).2.1 rfl x hx), fun h6 => by simp [phase] at h6⟩
  | @got o n f x A r hr =>
    have hp0 := hdr _ rfl (fun e => e.elim)
    refine ⟨hleft, hlive, hpos, fun k2 h3 => ?_⟩
    obtain ⟨rfl, h4⟩ := h0 k2 hp0 h3
    subst hp0
    refine ⟨h4, fun h6 => by simp [phase] at h6, fun _ y hy => ?_, fun h6 => by simp [phase] at h6⟩
    have h7 := (hI.ph _ hk).2.2.1 rfl y hy
    rw [hr] at h7
    simp at h7 ⊢
    exact h7
  | @stopL o n A hb hr =>
    have hp0 := hdr _ rfl (fun e => e.elim)
    refine ⟨hleft, hlive, hpos, fun k2 h3 => ?_⟩
    obtain ⟨rfl, h4⟩ := h0 k2 hp0 h3
    subst hp0
    obtain rfl : n = 0 := hI.left _ hk
    have h7 := (hI.ph _ hk).2.1 rfl
    refine ⟨h4, fun h6 => by simp [kdr, phase] at h6, fun h6 => by simp [kdr, phase] at h6, fun _ x hx => ?_⟩
    have h8 := h7 x hx
    rw [hb] at h8
    simp at h8
  | @stopI o n x A hr =>
    have hp0 := hdr _ rfl (fun e => e.elim)
    refine ⟨hleft, hlive, hpos, fun k2 h3 => ?_⟩
    obtain ⟨rfl, h4⟩ := h0 k2 hp0 h3
    subst hp0
    obtain rfl : n = 0 := hI.left _ hk
    have h7 := (hI.ph _ hk).2.2.1 rfl
    refine ⟨h4, fun h6 => by simp [kdr, phase] at h6, fun h6 => by simp [kdr, phase] at h6, fun _ y hy => ?_⟩
    have h8 := h7 y hy
    rw [hr, List.append_nil] at h8
    exact h8⟩
/-- The first codes, that tell. -/
def kmt (k0 : K9) (ms : List Nat) (i : Nat) : List K9 := k0 :: (List.range i).map fun j => kput true (mine ms j)
theorem kmt_succ (k0 : K9) (ms : List Nat) (i : Nat) : kmt k0 ms i ++ [kput true (mine ms i)] = kmt k0 ms (i + 1) := by simp [kmt, List.range_succ]
theorem kmt_at {k0 : K9} {ms : List Nat} {i p : Nat} {k : K9} (h : (kmt k0 ms i)[p + 1]? = some k) : p < i ∧ k = kput true (mine ms p) := by
  simp only [kmt, List.getElem?_cons_succ, List.getElem?_map] at h
  by_cases hp : p < i
  · rw [List.getElem?_range hp] at h
    exact ⟨hp, (Option.some.inj h).symm⟩
  · rw [List.getElem?_eq_none (by simp; omega)] at h
    simp at h
theorem holds_kmt (nd : Nat) (ms : List Nat) (i : Nat) : holds (kmt (kdr 0 nd) ms i) = allm ms i := by
  induction i with
  | zero => simp [holds, kmt, allm, hold_kdr]
  | succ i ih =>
    rw [← kmt_succ, allm, ← ih]
    simp [holds, hold_kput]
theorem Many9.zerot (ms : List Nat) (hm : ∀ j, ms.getD j 0 ≤ 5) (nd N : Nat) (hN : N ≤ 900000) (L : List Nat) : Many9 N (allm ms 4) ⟨[], [], [], [], [], []⟩ (kmt (kdr 0 nd) ms 4) ⟨0, List.replicate (2 + 2 * 20) 0, L, ⟨[([], [])], []⟩⟩ := by
  have h := Many9.zero ms hm nd N hN L
  refine ⟨h.len, h.bx, h.fr, h.own, h.ended, ?_, h.few, h.once, h.rng, fun k hk => ?_, fun p k hk => ?_, fun p k hk => ?_, h.dd, h.c0, h.c1⟩
  · rw [holds_kmt]
    exact List.Perm.refl _
  · obtain rfl : kdr 0 nd = k := by simpa [kmt] using hk
    exact Dr.kdr _
  · obtain ⟨_, rfl⟩ := kmt_at hk
    exact Pu.kput _ _
  · cases p with
    | zero =>
      obtain rfl : kdr 0 nd = k := by simpa [kmt] using hk
      exact okk_kdr _
    | succ p =>
      obtain ⟨_, rfl⟩ := kmt_at hk
      cases mine ms p <;> trivial
theorem drn_start {ms : List Nat} : Drn9 ⟨[], [], [], [], [], []⟩ (kmt (kdr 0 1) ms 4) ⟨0, List.replicate (2 + 2 * 20) 0, List.replicate 5 0, ⟨[([], [])], []⟩⟩ := by
  have e : ∀ k : Nat, (List.replicate (2 + 2 * 20) (0 : Int)).getD k 0 = 0 := fun k => by
    rw [List.getD_eq_getElem?_getD, List.getElem?_replicate]
    split <;> rfl
  refine ⟨fun k hk => ?_, fun i _ => by simp only [e]; omega, by simp, fun k hk => ?_⟩
  · obtain rfl : kdr 0 1 = k := by simpa [kmt] using hk
    rfl
  · obtain rfl : kdr 0 1 = k := by simpa [kmt] using hk
    exact ⟨fun _ => rfl, fun _ x hx => by simp at hx, fun h => by simp [kdr, phase] at h, fun h => by simp [kdr, phase] at h⟩
section
variable {a b gE ba bn B g ob bD i m n : Nat} {ms : List Nat} {ks : List K9} {τ : St R9} {ts gh : List Nat} {C : List (K9 × Value)} {Z : List (Option Addr × List Value)} {own : Nat → Prop} {tv : Value} {zs : List (Option Addr × List Value)} {w0 wr w' : World}
/-- A new box, with a variable for what is told. -/
theorem Grp.begin9e {a b ba bn nn B m n : Nat} {w0 w : World} {T T0 : TypeId} {g0 : Nat} {R0 : Array Value} {fr0 : Nat × Nat} (hA : Arena w a b 0 (List.replicate (2 + 2 * nn) 0)) (hnn : nn ≤ 100) (hn : n < 4611686018427387904) (ha : B ≤ a) (hb : B ≤ b) (n1 : ba ≠ a) (n2 : ba ≠ b) (n3 : bn ≠ a) (n4 : bn ≠ b) (n5 : ba ≠ gE) (n6 : bn ≠ gE) (n7 : gE ≠ a) (n8 : gE ≠ b) (hg : B ≤ gE) (hba : w.cell? ⟨ba, 0, none⟩ = some (.pointer (some ⟨a, 0, none⟩))) (hbn : w.cell? ⟨bn, 0, none⟩ = some (.int .i64 (nn : Int)))
    (hE : w.heap[gE]? = some (.cells #[.slice none 0 0] T (0, 0))) (hT : T ≠ 3) (hbx : w.heap[g0]? = some (.cells R0 T0 fr0)) (m1 : g0 ≠ a) (m2 : g0 ≠ b) (m3 : g0 ≠ gE) (hB : Below B w0 w) (hle : B ≤ w.heap.size) :
    Grp (S9 a b nn (some gE)) B m n (Nine.mk a b nn (some gE) [] ⟨0, List.replicate (2 + 2 * nn) 0, [], ⟨[], []⟩⟩) [] [] [] [(some ⟨g0, 0, none⟩, R0.toList), (some ⟨ba, 0, none⟩, [.pointer (some ⟨a, 0, none⟩)]), (some ⟨bn, 0, none⟩, [.int .i64 (nn : Int)])] (fun _ => False) w0 w := by
  have hV : ∀ i x, V9 (some gE) ⟨[], []⟩ [] i = some x → i = .ended ∧ x = (gE, 0, []) := fun i x h => by
    cases i with
    | ended => exact ⟨rfl, by simpa [V9] using h.symm⟩
    | got o => simp [V9] at h
    | ends o => simp [V9] at h
  have hi : Inv (S9 a b nn (some gE)) n ⟨0, List.replicate (2 + 2 * nn) 0, [], ⟨[], []⟩⟩ [] ⟨[], fun k => k = gE, fun _ => False, []⟩ w := Inv.start (S := S9 a b nn (some gE)) hA (zeros9 nn) (by simp; omega) hn (fun k hk => by subst hk; exact ⟨n7, n8, lt_of_at hE⟩) ⟨rfl, fun _ => .slice none 0 0, ⟨fun i g o xs h => ?_, fun i g o xs h => ?_, fun i g o xs h => ?_, fun i g o xs k h hk => ?_, fun i j x y k hij h hy => ?_, fun i j g o xs o' ys hij h hy => ?_⟩⟩
  · have hmut : ∀ k, k ≠ a → k ≠ b → k ≠ gE → ¬ Mut (S9 a b nn (some gE)) ⟨[], fun k => k = gE, fun _ => False, []⟩ k := fun k h1 h2 h3 e => by
      rcases e with e | e | e | e | e
      · exact h1 e
      · exact h2 e
      · simp at e
      · exact h3 e
      · exact e
    refine ⟨⟨[], _, Ready.start (m := m) hi, rfl, rfl, ⟨hle, fun k hk => hmut k (by omega) (by omega) (by omega)⟩, fun c hc => by simp at hc, fun z hz => ?_, fun k => Iff.rfl⟩, hB, fun k hk => hk.elim⟩
    rcases List.mem_cons.1 hz with rfl | hz
    · exact Lies.row hbx (hmut _ m1 m2 m3) (fun i v hv => by rw [Nat.zero_add]; simpa using hv)
    rcases List.mem_cons.1 hz with rfl | hz
    · exact Box.toLies ⟨Go.block_lt_of_cell hba, hmut _ n1 n2 n5, hba⟩
    · obtain rfl := List.mem_singleton.1 hz
      exact Box.toLies ⟨Go.block_lt_of_cell hbn, hmut _ n3 n4 n6, hbn⟩
  · obtain ⟨_, h2⟩ := hV _ _ h
    simp only [Prod.mk.injEq] at h2
    exact h2.1
  · obtain ⟨_, h2⟩ := hV _ _ h
    simp only [Prod.mk.injEq] at h2
    obtain ⟨rfl, rfl, rfl⟩ := h2
    exact ⟨_, _, hE, hT, rfl⟩
  · obtain ⟨_, h2⟩ := hV _ _ h
    simp only [Prod.mk.injEq] at h2
    obtain ⟨rfl, rfl, rfl⟩ := h2
    exact World.ownsRow_nil _ _ _ _
  · simp [Value.ownBlock] at hk
  · have h1 := (hV _ _ h).1
    have h2 := (hV _ _ hy).1
    exact absurd (h1.trans h2.symm) hij
  · have h1 := (hV _ _ h).1
    have h2 := (hV _ _ hy).1
    exact absurd (h1.trans h2.symm) hij
/-- A code of Puts is made, of which it is told. -/
theorem Grp.puts9d {N c tb : Nat} {l : List Int} {A : Option Addr} (h : Grp (S9 a b (20 : Nat) (some gE)) B m n (Nine.mk a b (20 : Nat) (some gE) ks τ) ts gh C Z own w0 wr) (hN : Hid (N = l.length)) (hNc : N ≤ c) (hc : c ≤ 9223372036854775807) (hl : (A, l.map (Value.int .i64)) ∈ Z) (hba : (some (⟨ba, 0, none⟩ : Addr), [Value.pointer (some ⟨a, 0, none⟩)]) ∈ Z) (hbn : (some (⟨bn, 0, none⟩ : Addr), [Value.int .i64 ((20 : Nat) : Int)]) ∈ Z) (hbD : (some (⟨bD, 0, none⟩ : Addr), [Value.pointer (some ⟨tb, 0, none⟩)]) ∈ Z) (htb : ts[0]? = some tb) (hr : ∀ t ∈ l, 0 ≤ t ∧ t < 4294967295) :
    Calls Try.prog 16 #[.agg (bxf a ba bn), .slice A N c, .func (.func 19) #[] #[.pointer (some ⟨bD, 0, none⟩), .pointer (some ⟨gE, 0, none⟩)]] wr fun e w1 => ∃ v, e = .returned v ∧ (v = .nilFunc ∨ ∃ f cap, v = .func (.func f) #[] cap) ∧ Hid (Grp (S9 a b (20 : Nat) (some gE)) B m n (Nine.mk a b (20 : Nat) (some gE) ks τ) ts gh ((kput true l, v) :: C) Z own w0 w1) ∧ Same own wr w1 := by
  have h0 := h
  obtain ⟨rs, L, hrd, hts, hgh, hold, hC, hZ, hscr⟩ := h.ex
  have ask : Asks9 a b ((20 : Nat) : Int) (some gE) 41 #[.pointer (some ⟨ba, 0, none⟩), .pointer (some ⟨bn, 0, none⟩)] true wr L := fun t l => dead9 (S := S9 a b (20 : Nat) (some gE)) (m := 0) (by omega) (by omega) (fun _ => rfl) (fun h σ => putD_next ((20 : Nat) : Int) true t l h σ) (Lies.box (hZ _ hba)) (Lies.box (hZ _ hbn))
  have don : Done9 a b ((20 : Nat) : Int) (some gE) true (.func (.func 19) #[] #[.pointer (some ⟨bD, 0, none⟩), .pointer (some ⟨gE, 0, none⟩)]) wr L := done_ok (by rw [hts]; exact htb) (Lies.box (hZ _ hbD))
  refine (puts_c (a := a) (b := b) (nn := ((20 : Nat) : Int)) (eb := some gE) (d := true) l m n N c A _ wr L τ rs (kput true l, τ) hrd.inv hN hNc hc (hZ _ hl) don ask hr (puts9_at _ _ _)).mono ?_
  rintro e w1 ⟨v, L1, rfl, e1, k1, i1, p1⟩
  have hbel := h0.bel
  have hlow := h0.low
  have r1 : Ready (S9 a b (20 : Nat) (some gE)) m n (Nine.mk a b (20 : Nat) (some gE) ks τ) rs L1 w1 := ⟨i1, hrd.len, fun i k v h1 h2 => (hrd.rep i k v h1 h2).later e1⟩
  obtain ⟨g1, g2⟩ := Grp.ran hrd hts hgh hold hC hZ hscr hbel hlow e1 k1 r1 (Nat.le_refl _)
  refine ⟨v, rfl, p1.func, ⟨⟨rs, L1, r1, k1.ts.trans hts, k1.gh.trans hgh, hold.later e1, fun c hc => ?_, fun z hz => (hZ z hz).later e1, fun q => by rw [k1.scr]; exact hscr q⟩, g1.bel, g1.low⟩, g2⟩
  rcases List.mem_cons.1 hc with rfl | hc
  · exact p1
  · exact (hC c hc).later e1
/-- What Puts told. -/
theorem Grp.ended9 (h : Grp (S9 a b (20 : Nat) (some gE)) B m n (Nine.mk a b (20 : Nat) (some gE) ks τ) ts gh C Z own w0 wr) : ∃ A c, wr.cell? ⟨gE, 0, none⟩ = some (.slice A τ.r.ended.length c) ∧ Reads wr A τ.r.ended.length (τ.r.ended.map (.int .i64)) ∧ τ.r.ended.length ≤ maxLen := by
  obtain ⟨rs, L, hrd, hts, hgh, hold, hC, hZ, hscr⟩ := h.ex
  obtain ⟨hl, sv, W⟩ : J9 (some gE) τ.r L.own L.gh wr := hrd.inv.rest
  have hV : V9 (some gE) τ.r L.gh .ended = some (gE, 0, τ.r.ended) := rfl
  obtain ⟨R, tr, b1, b3, b2⟩ := W.blk _ _ _ _ hV
  have r1 := W.row _ _ _ _ hV
  have hc : wr.cell? ⟨gE, 0, none⟩ = some (sv .ended) := by rw [cell_of_row _ _ _ _ _ _ b1]; exact b2
  generalize sv .ended = v at *
  obtain ⟨A, c, rfl⟩ : ∃ A c, v = .slice A τ.r.ended.length c := by
    rcases r1.2 with ⟨h1, h2⟩ | ⟨g2, cap, cur, h1, _⟩
    · exact ⟨none, 0, by rw [h1, h2]⟩
    · exact ⟨_, _, h1⟩
  obtain ⟨d1, d2, d3, d4⟩ := row_dims9 r1
  exact ⟨A, c, hc, reads_own r1, by omega⟩
end
end Go.Proofs.Ytndpkonihcebeaa.Kod.Nine
