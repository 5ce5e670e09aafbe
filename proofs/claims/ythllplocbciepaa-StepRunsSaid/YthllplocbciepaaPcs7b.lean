/- Two rows of tasks over two arenas, run: all at once, and piece by piece. -/
import Derived.Test.YthllplocbciepaaPcs7
import Derived.Test.YthllplocbciepaaRd
namespace Go.Proofs.Ythllplocbciepaa.Cod.Seven
open Go.RowKit Go.Proofs.Ythllplocbciepaa Go.Proofs.Ythllplocbciepaa.Cell
set_option linter.unusedVariables false
set_option linter.unusedSimpArgs false
variable {a b sb a' b' sb' ns : Nat}

/-- Is nothing left, by a task's value? -/
def Shape (bb : Bool) (u : Value) : Prop := (bb = true ∧ u = .nilFunc) ∨ (bb = false ∧ ∃ f cap, u = .func (.func f) #[] cap ∧ Enters Try.prog f)
/-- What a machine's blocks hold. -/
structure F7 (M : Mach (S7 a b sb ns)) (ts : List Nat) (w : World) : Prop where
  ar : Arena w a b M.σ.c M.σ.xs
  len : M.σ.xs.length ≤ 1048576
  row : w.heap[sb]? = some (.cells (row M.σ.r.sums) 22 (0, 0))
  sl : M.σ.r.sums.length = ns
  task : ∀ i t : Nat, ts[i]? = some t → ∃ (u : Value) (s : Nat) (k : K7), w.heap[t]? = some (.cells #[u, .int .i64 (s : Int)] 117 (0, 0)) ∧ M.ks[i]? = some k ∧ M.σ.steps[i]? = some s ∧ Shape k.2.isEmpty u
theorem F7.of_ready {m n : Nat} {M : Mach (S7 a b sb ns)} {rs : List Value} {L : Lay} {w : World} (h : Ready (S7 a b sb ns) m n M rs L w) : F7 M L.ts w := by
  have hj : J7 sb ns M.σ.r L.own w := h.inv.rest
  refine ⟨h.inv.ar, h.inv.len, hj.row, hj.len, fun i t ht => ?_⟩
  obtain ⟨k, v, s, h1, h2, h3, h4, h5⟩ := h.at ht
  exact ⟨v, s, k, h5, h1, h3, h4.shape⟩
theorem F7.later {M : Mach (S7 a b sb ns)} {ts : List Nat} {w w' : World} (h : F7 M ts w) (hu : ∀ k : Nat, k = a ∨ k = b ∨ k = sb ∨ k ∈ ts → w'.heap[k]? = w.heap[k]?) : F7 M ts w' :=
  ⟨arena_same h.ar (hu _ (Or.inl rfl)) (hu _ (Or.inr (Or.inl rfl))), h.len, (hu _ (Or.inr (Or.inr (Or.inl rfl)))).trans h.row, h.sl, fun i t ht => by
    obtain ⟨u, s, k, h1, h2⟩ := h.task i t ht
    exact ⟨u, s, k, (hu t (Or.inr (Or.inr (Or.inr (List.mem_of_getElem? ht))))).trans h1, h2⟩⟩
theorem F7.made {M : Mach (S7 a b sb ns)} {ts : List Nat} {w w' : World} (h : F7 M ts w) (m : Made w w') : F7 M ts w' :=
  h.later fun k hk => by
    rcases hk with rfl | rfl | rfl | hk
    · exact m.block _ (Array.getElem?_eq_some_iff.1 h.ar.ha).1
    · exact m.block _ (Array.getElem?_eq_some_iff.1 h.ar.hb).1
    · exact m.block _ (Array.getElem?_eq_some_iff.1 h.row).1
    · obtain ⟨i, hi, rfl⟩ := List.getElem_of_mem hk
      obtain ⟨u, s, k, h1, _⟩ := h.task i _ (List.getElem?_eq_getElem hi)
      exact m.block _ (Array.getElem?_eq_some_iff.1 h1).1
/-- Cells of a slice, read. -/
theorem rd_lies {S : Sys} {B : Nat} {w wr : World} {L : Lay} {A : Option Addr} {ps : List Int} (h : Rd .i64 w B A ps) (m : Below B w wr) (o : Old S B wr L) : Lies S wr L A (ps.map (.int .i64)) := fun i v hi => by
  rw [List.getElem?_map] at hi
  obtain ⟨p, hp, rfl⟩ := Option.map_eq_some_iff.1 hi
  obtain ⟨hil, rfl⟩ := List.getElem?_eq_some_iff.1 hp
  obtain ⟨ad, rfl, hb, hc⟩ := h i hil
  refine ⟨ad, rfl, Nat.lt_of_lt_of_le hb o.le, o.apart _ hb, ?_⟩
  have e : (ad.add i).block = ad.block := by unfold Addr.add; split <;> rfl
  rw [m.cell (by rw [e]; exact hb)]
  exact hc
theorem Lies.take {S : Sys} {w : World} {L : Lay} {A : Option Addr} {vs : List Value} (h : Lies S w L A vs) (k : Nat) : Lies S w L A (vs.take k) := fun i v hi => by
  rw [List.getElem?_take] at hi
  split at hi
  · exact h i v hi
  · simp at hi
theorem Lies.drop {S : Sys} {w : World} {L : Lay} {A : Option Addr} {vs : List Value} (h : Lies S w L A vs) (k : Nat) : Lies S w L (A.map (·.add k)) (vs.drop k) := fun i v hi => by
  rw [List.getElem?_drop] at hi
  obtain ⟨ad, rfl, h1, h2, h3⟩ := h (k + i) v hi
  refine ⟨ad.add k, rfl, ?_, ?_, ?_⟩
  · have e : (ad.add k).block = ad.block := by unfold Addr.add; split <;> rfl
    rw [e]; exact h1
  · have e : (ad.add k).block = ad.block := by unfold Addr.add; split <;> rfl
    rw [e]; exact h2
  · have e : (ad.add k).add i = ad.add (k + i) := by
      unfold Addr.add
      by_cases h1 : k = 0
      · subst h1; simp
      · by_cases h2 : i = 0
        · subst h2; simp [h1]
        · simp [h1, h2, Nat.add_assoc]
    rw [e]
    exact h3

/-- The machine of these rows of acts, at the beginning. -/
def M0 (a b sb ns : Nat) (ls : List (List Acc)) (k : Nat) : Mach (S7 a b sb ns) := ⟨tk ls k, ⟨0, [0, 0, 0, 0], List.replicate k 0, ⟨List.replicate ns 0, []⟩⟩⟩
theorem M0_like (a b sb a' b' sb' ns : Nat) (ls : List (List Acc)) (k : Nat) : LikeM (M0 a b sb ns ls k) (M0 a' b' sb' ns ls k) := ⟨rfl, rfl, ⟨rfl, rfl, rfl⟩⟩
/-- What the second system may not touch: the first one's. -/
def X2 (a b sb : Nat) (ts1 : List Nat) (k : Nat) : Prop := k = a ∨ k = b ∨ k = sb ∨ k ∈ ts1

/-- Behind the first system's run: the second system may do m steps more. -/
structure Q7 (a b sb a' b' sb' ns : Nat) (M1 : Mach (S7 a b sb ns)) (M2 : Mach (S7 a' b' sb' ns)) (m n : Nat) (w : World) (A1 A2 A' : Option Addr) (ts1 ts2 : List Nat) (ps : List Int) (wr : World) : Prop where
  f1 : F7 M1 ts1 wr
  r2 : ∃ rs2 L2, L2.ts = ts2 ∧ L2.scr = X2 a b sb ts1 ∧ Ready (S7 a' b' sb' ns) m n M2 rs2 L2 wr ∧ Lies (S7 a' b' sb' ns) wr L2 A1 (ptrs ts1) ∧ Lies (S7 a' b' sb' ns) wr L2 A2 (ptrs ts2) ∧ Lies (S7 a' b' sb' ns) wr L2 A' (ps.map (.int .i64)) ∧ Old (S7 a' b' sb' ns) w.heap.size wr L2
  bel : Below w.heap.size w wr
variable {w wr : World} {A1 A2 A' : Option Addr} {ts1 ts2 : List Nat} {ps : List Int} {M1 : Mach (S7 a b sb ns)} {M2 : Mach (S7 a' b' sb' ns)} {m n : Nat}
theorem Q7.later {w' : World} (h : Q7 a b sb a' b' sb' ns M1 M2 m n w A1 A2 A' ts1 ts2 ps wr) (md : Made wr w') : Q7 a b sb a' b' sb' ns M1 M2 m n w A1 A2 A' ts1 ts2 ps w' := by
  obtain ⟨rs2, L2, h1, h2, h3, h4, h5, h6, h7⟩ := h.r2
  exact ⟨h.f1.made md, ⟨rs2, L2, h1, h2, h3.later md, h4.later (Ext.of_made md), h5.later (Ext.of_made md), h6.later (Ext.of_made md), h7.later (Ext.of_made md)⟩, Below.trans h.bel (Below.mono md h.bel.size)⟩
/-- A run of the second system: picks of the whole, from k on, l of them. -/
theorem Q7.run {k l N N' c c' m' n' : Nat} {A3 : Option Addr} (h : Q7 a b sb a' b' sb' ns M1 M2 m' n' w A1 A2 A' ts1 ts2 ps wr) (hm : m + l ≤ m') (hnn : n + 2 * l ≤ n') (hl : k + l ≤ ps.length) (hN : Hid (N = ts2.length)) (hn : (N : Int) ≤ 9223372036854775807) (hN' : Hid (N' = l)) (hA : l = 0 ∨ A3 = A'.map (·.add k)) :
    Calls Try.prog 39 #[.slice A2 N c, .slice A3 N' c'] wr fun e w' => e = .returned (.int .i64 (M2.run ((ps.drop k).take l)).2) ∧ Q7 a b sb a' b' sb' ns M1 (M2.run ((ps.drop k).take l)).1 m n w A1 A2 A' ts1 ts2 ps w' := by
  obtain ⟨rs2, L2, h1, h2, h3, h4, h5, h6, h7⟩ := h.r2
  have hlen : ((ps.drop k).take l).length = l := by simp; omega
  have hp : Lies (S7 a' b' sb' ns) wr L2 A3 (((ps.drop k).take l).map (.int .i64)) := by
    rcases hA with rfl | rfl
    · simp only [List.take_zero, List.map_nil]
      exact Lies.nil
    · have := Lies.take (Lies.drop h6 k) l
      rw [← List.map_drop, ← List.map_take] at this
      exact this
  have hr := Run_c (m := m) (n := n) (c := c) (c' := c') ((ps.drop k).take l) (by rw [hlen]; exact h3.lower hm hnn) (N := N) (N' := N') (by rw [h1]; exact hN) (by rw [hlen]; exact hN') hn (by rw [h1]; exact h5) hp
  refine hr.mono ?_
  rintro e w' ⟨rs', L', rfl, hx, hk, hr'⟩
  have hun : ∀ j : Nat, j = a ∨ j = b ∨ j = sb ∨ j ∈ ts1 → w'.heap[j]? = wr.heap[j]? := fun j hj => hk.same j (by rw [h2]; exact hj)
  exact ⟨rfl, h.f1.later hun, ⟨rs', L', hk.ts.trans h1, hk.scr.trans h2, hr', h4.later hx, h5.later hx, h6.later hx, h7.later hx⟩, Below.trans h.bel (h7.below hx)⟩

/-- What stands at one place of the two rows, when both do alike. -/
theorem Q7.at (h : Q7 a b sb a' b' sb' ns M1 M2 m n w A1 A2 A' ts1 ts2 ps wr) (hl : LikeM M1 M2) {i : Nat} (hi : i < ns) (h1 : ts1.length = ns) (h2 : ts2.length = ns) : ∃ (ad1 ad2 : Addr) (p1 p2 : Nat) (u1 u2 : Value) (s : Nat) (bb : Bool) (v : Int), A1 = some ad1 ∧ A2 = some ad2 ∧
    wr.cell? (ad1.add i) = some (.pointer (some ⟨p1, 0, none⟩)) ∧ wr.cell? (ad2.add i) = some (.pointer (some ⟨p2, 0, none⟩)) ∧ wr.cell? ⟨sb, i, none⟩ = some (.int .u64 v) ∧ wr.cell? ⟨sb', i, none⟩ = some (.int .u64 v) ∧
    wr.heap[p1]? = some (.cells #[u1, .int .i64 (s : Int)] 117 (0, 0)) ∧ wr.heap[p2]? = some (.cells #[u2, .int .i64 (s : Int)] 117 (0, 0)) ∧ Shape bb u1 ∧ Shape bb u2 := by
  obtain ⟨rs2, L2, g1, g2, g3, g4, g5, g6, g7⟩ := h.r2
  have f2 := F7.of_ready g3
  rw [g1] at f2
  have hi1 : i < ts1.length := by omega
  have hi2 : i < ts2.length := by omega
  obtain ⟨u1, s1, k1, c1, q1, r1, z1⟩ := h.f1.task i _ (List.getElem?_eq_getElem hi1)
  obtain ⟨u2, s2, k2, c2, q2, r2, z2⟩ := f2.task i _ (List.getElem?_eq_getElem hi2)
  have e1 : (show List K7 from M1.ks)[i]? = (show List K7 from M2.ks)[i]? := by rw [hl.ks]
  have e2 : k1 = k2 := Option.some.inj (q1.symm.trans (e1.trans q2))
  have e3 : s1 = s2 := by
    rw [hl.steps] at r1
    exact Option.some.inj (r1.symm.trans r2)
  subst e2 e3
  obtain ⟨ad1, rfl, _, _, d1⟩ := g4 i (.pointer (some ⟨ts1[i], 0, none⟩)) (by simp [ptrs, hi1])
  obtain ⟨ad2, rfl, _, _, d2⟩ := g5 i (.pointer (some ⟨ts2[i], 0, none⟩)) (by simp [ptrs, hi2])
  have l1 : i < M1.σ.r.sums.length := by rw [h.f1.sl]; exact hi
  have e4 : M2.σ.r.sums = M1.σ.r.sums := hl.like.sums.symm
  have w1 : wr.cell? ⟨sb, i, none⟩ = some (.int .u64 M1.σ.r.sums[i]) := by rw [cell_of_row _ _ _ _ _ _ h.f1.row]; exact row_at' l1
  have w2 : wr.cell? ⟨sb', i, none⟩ = some (.int .u64 M1.σ.r.sums[i]) := by
    have := f2.row
    rw [e4] at this
    rw [cell_of_row _ _ _ _ _ _ this]
    exact row_at' l1
  exact ⟨ad1, ad2, _, _, u1, u2, s1, _, _, rfl, rfl, d1, d2, w1, w2, c1, c2, z1, z2⟩
/-- The first system's run: all at once. -/
theorem Pcs.run1 {ls : List (List Acc)} {v1 v2 : Value} {rs1 rs2 : List Value} {N' c' : Nat} (h : Pcs a b sb a' b' sb' ns ls w ns ns v1 v2 ts1 ts2 rs1 rs2 wr) (hp : Rd .i64 w w.heap.size A' ps) (hps : ps.length ≤ 200) (hN' : Hid (N' = ps.length)) (hn : (ns : Int) ≤ 9223372036854775807) :
    ∃ A1 c1 A2 c2, v1 = .slice A1 ns c1 ∧ v2 = .slice A2 ns c2 ∧ ts1.length = ns ∧ ts2.length = ns ∧ Calls Try.prog 39 #[v1, .slice A' N' c'] wr fun e w' => e = .returned (.int .i64 ((M0 a b sb ns ls ns).run ps).2) ∧
      Q7 a b sb a' b' sb' ns ((M0 a b sb ns ls ns).run ps).1 (M0 a' b' sb' ns ls ns) 200 2600 w A1 A2 A' ts1 ts2 ps w' := by
  have g1 : ∀ k, v1.ownBlock = some k → ¬ Mut (S7 a b sb ns) ⟨ts1, fun k => k = sb, fun _ => False⟩ k ∧ ¬ Mut (S7 a' b' sb' ns) ⟨ts2, fun k => k = sb', X2 a b sb ts1⟩ k := fun k hk => by
    have h1 := h.r1.inv.scra k (Or.inl hk)
    have h2 := h.r2.inv.scra k (Or.inl (Or.inl hk))
    simp only [S7] at h1 h2
    refine ⟨fun e => ?_, fun e => ?_⟩
    · simp [Mut, S7] at e
      rcases e with e | e | e | e
      · exact h1.1 e
      · exact h1.2.1 e
      · exact h1.2.2.1 e
      · exact h1.2.2.2.1 e
    · simp [Mut, S7, X2] at e
      rcases e with e | e | e | e | e | e | e | e
      · exact h2.1 e
      · exact h2.2.1 e
      · exact h2.2.2.1 e
      · exact h2.2.2.2.1 e
      · exact h1.1 e
      · exact h1.2.1 e
      · exact h1.2.2.2.1 e
      · exact h1.2.2.1 e
  have g2 : ∀ k, v2.ownBlock = some k → ¬ Mut (S7 a b sb ns) ⟨ts1, fun k => k = sb, fun _ => False⟩ k ∧ ¬ Mut (S7 a' b' sb' ns) ⟨ts2, fun k => k = sb', X2 a b sb ts1⟩ k := fun k hk => by
    have h1 := h.r1.inv.scra k (Or.inr hk)
    have h2 := h.r2.inv.scra k (Or.inl (Or.inr hk))
    simp only [S7] at h1 h2
    refine ⟨fun e => ?_, fun e => ?_⟩
    · simp [Mut, S7] at e
      rcases e with e | e | e | e
      · exact h1.1 e
      · exact h1.2.1 e
      · exact h1.2.2.1 e
      · exact h1.2.2.2.1 e
    · simp [Mut, S7, X2] at e
      rcases e with e | e | e | e | e | e | e | e
      · exact h2.1 e
      · exact h2.2.1 e
      · exact h2.2.2.1 e
      · exact h2.2.2.2.1 e
      · exact h1.1 e
      · exact h1.2.1 e
      · exact h1.2.2.2.1 e
      · exact h1.2.2.1 e
  have w1 : Wrote (two v1 v2) wr wr := Wrote.of_made (Made.refl _)
  have w2 : Wrote (fun j => two v1 v2 j ∨ j = a ∨ j = b ∨ j = sb ∨ j ∈ ts1) wr wr := Wrote.of_made (Made.refl _)
  have R1 := h.r1.rescr (X := fun _ => False) w1 (fun k hk => hk.elim)
  have R2 := h.r2.rescr (X := X2 a b sb ts1) w2 (fun k hk => ⟨Or.inl (Or.inr hk), (h.r2.inv.scra k (Or.inr hk)).2.2.2.2⟩)
  have O1 := h.old1.rescr (X := fun _ => False) w1 (fun k hk => hk.elim)
  have O2 := h.old2.rescr (X := X2 a b sb ts1) w2 (fun k hk => Or.inl (Or.inr hk))
  obtain ⟨A1, c1, rfl, hl1, L11⟩ := owns_lies (S := S7 a b sb ns) h.o1 (fun k hk => (g1 k hk).1)
  obtain ⟨_, _, e1, _, L12⟩ := owns_lies (S := S7 a' b' sb' ns) h.o1 (fun k hk => (g1 k hk).2)
  obtain ⟨A2, c2, rfl, hl2, L22⟩ := owns_lies (S := S7 a' b' sb' ns) h.o2 (fun k hk => (g2 k hk).2)
  simp only [Value.slice.injEq] at e1
  obtain ⟨rfl, _, rfl⟩ := e1
  have t1 : ts1.length = ns := by rw [hl1]; simp [ptrs]
  have t2 : ts2.length = ns := by rw [hl2]; simp [ptrs]
  refine ⟨A1, c1, A2, c2, rfl, rfl, t1, t2, ?_⟩
  have hr := Run_c (m := 50) (n := 2600) (c := c1) (c' := c') ps (M := M0 a b sb ns ls ns) (R1.lower (by omega) (by omega)) (N := ns) (N' := N') (show ns = ts1.length from t1.symm) hN' hn L11 (rd_lies hp h.bel O1)
  refine hr.mono ?_
  rintro e w' ⟨rs', L', rfl, hx, hk, hr'⟩
  have hwr : Wrote (X2 a b sb ts1) wr w' := (Wrote.of_ext hx).mono fun k _ hk => by
    simp [Mut, S7] at hk
    rcases hk with hk | hk | hk | hk
    · exact Or.inl hk
    · exact Or.inr (Or.inl hk)
    · exact Or.inr (Or.inr (Or.inr hk))
    · exact Or.inr (Or.inr (Or.inl hk))
  have hX : ∀ k, X2 a b sb ts1 k → (X2 a b sb ts1 k ∨ wr.heap.size ≤ k) ∧ k < w'.heap.size := fun k hk => ⟨Or.inl hk, by have := (h.r2.inv.scra k (Or.inr hk)).2.2.2.2; have := hx.size; omega⟩
  have hE : Ext (S7 a' b' sb' ns) wr ⟨ts2, fun k => k = sb', X2 a b sb ts1⟩ w' ⟨ts2, fun k => k = sb', X2 a b sb ts1⟩ := Ext.rescr (L := ⟨ts2, fun k => k = sb', X2 a b sb ts1⟩) hwr (fun k hk => Or.inl hk)
  have hF := F7.of_ready hr'
  rw [hk.ts] at hF
  exact ⟨rfl, hF, ⟨rs2, ⟨ts2, fun k => k = sb', X2 a b sb ts1⟩, rfl, rfl, (R2.rescr (L := ⟨ts2, fun k => k = sb', X2 a b sb ts1⟩) hwr hX).lower (by omega) (by omega), L12.later hE, L22.later hE, (rd_lies hp h.bel O2).later hE, O2.later hE⟩, Below.trans h.bel (O1.below hx)⟩
end Go.Proofs.Ythllplocbciepaa.Cod.Seven
