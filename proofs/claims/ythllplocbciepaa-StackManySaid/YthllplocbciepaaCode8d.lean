/- Layer 8's laws: the code of acts, walked. -/
import Derived.Test.YthllplocbciepaaCode8c
namespace Go.Proofs.Ythllplocbciepaa.Kod.Eight
open Go.RowKit Go.Proofs.Ythllplocbciepaa Go.Proofs.Ythllplocbciepaa.Cell Go.Proofs.Ythllplocbciepaa.Wd
set_option linter.unusedVariables false
set_option linter.unusedSimpArgs false
variable {a b : Nat} {gb : Nat → Nat} {fl : FuncId}

theorem popK (a b : Nat) (gb : Nat → Nat) (j : Nat) (l : List Bool) : PopK (S8 a b gb) 0 lk1 (.popL j l) (.popN j l) (.popC j l) (popped j l) := ⟨rfl, fun _ => rfl, fun _ _ => rfl, fun _ => rfl, fun _ _ => rfl, fun _ _ _ => rfl⟩
theorem pushK (a b : Nat) (gb : Nat → Nat) (j : Nat) (l : List Bool) (i : Int) : PushK (S8 a b gb) 0 lk1 i (.pshL j l i) (.pshS j l i) (.pshC j l i) (pushed j l) := ⟨rfl, fun _ => rfl, fun _ => rfl, fun _ => rfl, fun _ _ => rfl, fun _ _ => rfl⟩
theorem enter_pop {j : Nat} {l : List Bool} {σ : St (List W8)} {y : K8 × St (List W8)} (h : enter j (true :: l) σ = some y) : ∃ x, σ.r[j]? = some x ∧ y = (.popL j l, setw σ j { x with busy := true, bare := false }) := by
  unfold enter at h
  split at h
  · simp at h
  · rename_i x hx
    exact ⟨x, hx, (Option.some.inj h).symm⟩
theorem enter_push {j : Nat} {l : List Bool} {σ : St (List W8)} {y : K8 × St (List W8)} (h : enter j (false :: l) σ = some y) : ∃ x, σ.r[j]? = some x ∧ ((x.hands = [] ∧ enter j l σ = some y) ∨ ∃ i, x.hands.getLast? = some i ∧ y = (.pshL j l i, σ)) := by
  unfold enter at h
  split at h
  · simp at h
  · rename_i x hx
    refine ⟨x, hx, ?_⟩
    split at h
    · rename_i hg
      exact Or.inl ⟨List.getLast?_eq_none_iff.1 hg, h⟩
    · rename_i i hg
      exact Or.inr ⟨i, hg, (Option.some.inj h).symm⟩
/-- The three boxes that code makes first. -/
abbrev W3 (a : Nat) (fl : FuncId) (A : Option Addr) (n c wb : Nat) (w : World) : World := ((w.alloc (.cells #[.pointer (some ⟨a, 0, none⟩), .int .i64 0, .func (.func fl) #[] #[]] 81)).alloc (.cells #[.slice A n c] 84)).alloc (.cells #[.pointer (some ⟨wb, 0, none⟩)] 85)
theorem W3_made (a : Nat) (fl : FuncId) (A : Option Addr) (n c wb : Nat) (w : World) : Made w (W3 a fl A n c wb w) := (((Made.refl _).alloc (Nat.le_refl _) _).alloc (by simp only [World.size_alloc]; omega) _).alloc (by simp only [World.size_alloc]; omega) _
theorem W3_boxes (a b : Nat) (gb : Nat → Nat) (fl : FuncId) (A : Option Addr) (n c wb : Nat) (w : World) {L : Lay} (hL : ∀ k, Mut (S8 a b gb) L k → k < w.heap.size) :
    SBox (S8 a b gb) (W3 a fl A n c wb w) L w.heap.size 0 fl ∧ Box (S8 a b gb) (W3 a fl A n c wb w) L (w.heap.size + 1) (.slice A n c) ∧ Box (S8 a b gb) (W3 a fl A n c wb w) L (w.heap.size + 1 + 1) (.pointer (some ⟨wb, 0, none⟩)) := by
  have m0 : Made w (w.alloc (.cells #[.pointer (some ⟨a, 0, none⟩), .int .i64 0, .func (.func fl) #[] #[]] 81)) := (Made.refl w).alloc (Nat.le_refl _) _
  have m1 : Made (w.alloc (.cells #[.pointer (some ⟨a, 0, none⟩), .int .i64 0, .func (.func fl) #[] #[]] 81)) ((w.alloc (.cells #[.pointer (some ⟨a, 0, none⟩), .int .i64 0, .func (.func fl) #[] #[]] 81)).alloc (.cells #[.slice A n c] 84)) := (Made.refl _).alloc (Nat.le_refl _) _
  have m2 : Made ((w.alloc (.cells #[.pointer (some ⟨a, 0, none⟩), .int .i64 0, .func (.func fl) #[] #[]] 81)).alloc (.cells #[.slice A n c] 84)) (W3 a fl A n c wb w) := (Made.refl _).alloc (Nat.le_refl _) _
  refine ⟨((SBox.new (S := S8 a b gb) hL rfl).later (Ext.of_made m1)).later (Ext.of_made m2), (Box.new (fun k hk => by have := hL k hk; simp only [World.size_alloc]; omega) (by simp only [World.size_alloc])).later (Ext.of_made m2), Box.new (fun k hk => by have := hL k hk; simp only [World.size_alloc]; omega) (by simp only [World.size_alloc])⟩

set_option maxRecDepth 100000 in
set_option maxHeartbeats 2000000 in
theorem code_nil : Code8 a b gb fl [] := by
  intro m j wb n c q A w L σ rs y hi hgh hn hnc hc hl hy
  obtain rfl : n = 0 := hn.out
  obtain rfl : (K8.done, σ) = y := Option.some.inj hy
  have hm := W3_made a fl A 0 c wb w
  have HF : Hid (Gives (S8 a b gb) m q (K8.done, σ) rs L w (.returned .nilFunc) (W3 a fl A 0 c wb w)) := ⟨_, L, rfl, Ext.of_made hm, hi.keeps_made hm, hi.later hm, Rep.none rfl⟩
  clear hi hgh hn hl hy hm
  rw [show stk (S8 a b gb) 0 fl = .agg #[.pointer (some ⟨a, 0, none⟩), .int .i64 0, .func (.func fl) #[] #[]] from rfl]
  go_enter Try.func51, Try.ntmps51
  go_wp2_with fail
  go_ret
  exact HF.out
set_option maxRecDepth 100000 in
set_option maxHeartbeats 4000000 in
theorem code_pop {l : List Bool} (hlk : LinkOK fl lk1) (IH : Code8 a b gb fl l) : Code8 a b gb fl (true :: l) := by
  intro m j wb n c q A w L σ rs y hi hgh hn hnc hc hl hy
  obtain ⟨x, hxj, rfl⟩ := enter_pop hy
  obtain ⟨n, rfl⟩ : ∃ k, n = k + 1 := ⟨l.length, by rw [hn.out]; rfl⟩
  have hn' : Hid (n = l.length) := by have h := hn.out; simp only [List.length_cons] at h; show _ = _; omega
  obtain ⟨A', rfl⟩ : ∃ A', A = some A' := by
    obtain ⟨A', hA, _⟩ := hl 0 _ rfl
    exact ⟨A', hA⟩
  have hj : j < σ.r.length := (List.getElem?_eq_some_iff.1 hxj).1
  have hm := W3_made a fl (some A') (n + 1) c wb w
  obtain ⟨sb, bl, bp⟩ := W3_boxes a b gb fl (some A') (n + 1) c wb w (L := L) (fun k hk => hi.mut_lt hk)
  have hl3 := hl.later (Ext.of_made hm)
  have N3 := Now.start (hi.later hm) hxj
  obtain ⟨d0, d1, kc⟩ := N3.cells hj hgh
  have q0 : (W3 a fl (some A') (n + 1) c wb w).cell? A' = some (.bool true) := by
    obtain ⟨a', ha, _, _, h3⟩ := hl3 0 _ rfl
    obtain rfl := Option.some.inj ha
    have e : A'.add 0 = A' := by simp [Addr.add]
    rw [e] at h3
    exact h3
  have k2 : (W3 a fl (some A') (n + 1) c wb w).cell? ⟨wb, 2, none⟩ = some (.bool x.busy) := by rw [cell_of_row _ _ _ _ _ _ kc]; rfl
  have k3 : (W3 a fl (some A') (n + 1) c wb w).cell? ⟨wb, 3, none⟩ = some (.bool x.bare) := by rw [cell_of_row _ _ _ _ _ _ kc]; rfl
  have z2 : (W3 a fl (some A') (n + 1) c wb w).frozen? ⟨wb, 2, none⟩ = false := frozen_of_row _ _ _ _ _ kc
  have z3 : (W3 a fl (some A') (n + 1) c wb w).frozen? ⟨wb, 3, none⟩ = false := frozen_of_row _ _ _ _ _ kc
  have NA : Hid (∀ u, Made (((W3 a fl (some A') (n + 1) c wb w).setCell ⟨wb, 2, none⟩ (.bool true)).setCell ⟨wb, 3, none⟩ (.bool false)) u → Now a b gb q j σ rs L (W3 a fl (some A') (n + 1) c wb w) { x with busy := true, bare := false } u) := fun u hu =>
    ((N3.flag (x' := { x with busy := true }) hj hgh rfl rfl (fun _ _ => rfl)).flag (x' := { x with busy := true, bare := false }) hj hgh rfl rfl (fun _ _ => rfl)).made hu
  have NB : Hid (∀ u, Made (((W3 a fl (some A') (n + 1) c wb w).setCell ⟨wb, 3, none⟩ (.bool false)).setCell ⟨wb, 2, none⟩ (.bool true)) u → Now a b gb q j σ rs L (W3 a fl (some A') (n + 1) c wb w) { x with busy := true, bare := false } u) := fun u hu =>
    ((N3.flag (x' := { x with bare := false }) hj hgh rfl rfl (fun _ _ => rfl)).flag (x' := { x with busy := true, bare := false }) hj hgh rfl rfl (fun _ _ => rfl)).made hu
  have hn0 : (0 : Int) ≤ (n : Int) := by omega
  have hnz : ((n : Int) + 1 == 0) = false := by simp; omega
  have c3 := bp.cell
  have hmf : ∀ (fn : Fn) (first cap : Array Value) (w : World), (Instr.makeFunc fn first cap).run Try.prog w = .ok (.func fn first cap) w := fun _ _ _ _ => rfl
  have HL := Lib.hid hl3
  have HSB := Lib.hid sb
  have HBL := Lib.hid bl
  have HBP := Lib.hid bp
  have HI := Lib.hid hi
  have HM := Lib.hid hm
  clear hl hl3 sb bl bp hi hm N3 kc hy hxj
  simp only [W3] at q0 k2 k3 z2 z3 c3
  rw [show stk (S8 a b gb) 0 fl = .agg #[.pointer (some ⟨a, 0, none⟩), .int .i64 0, .func (.func fl) #[] #[]] from rfl]
  go_enter Try.func51, Try.ntmps51
  go_upto_region 4 with fail
  go_cut [6] (fun s6 wx => s6 = .nilFunc ∧ Now a b gb q j σ rs L (W3 a fl (some A') (n + 1) c wb w) { x with busy := true, bare := false } wx)
  case first =>
    clear IH HL HSB HBL HBP HI HM hgh hn hn' hj
    go_region
    all_goals
      go_wp2_with fail
      go_meet
      refine ⟨rfl, ?_⟩
      first | exact NA.out _ (Made.drewN _ 1) | exact NB.out _ (Made.drewN _ 1)
  case rest =>
    obtain ⟨rfl, N4⟩ := hcut
    obtain ⟨own4, hv4, sv4, I4, X4, K4, W4⟩ := N4
    have sb4 := HSB.out.later X4
    have bl4 := HBL.out.later X4
    have bp4 := HBP.out.later X4
    have HC : Hid (Calls Try.prog 77 #[.agg #[.pointer (some ⟨a, 0, none⟩), .int .i64 0, .func (.func fl) #[] #[]], .func (.func 78) #[] #[.pointer (some ⟨w.heap.size + 1 + 1, 0, none⟩), .pointer (some ⟨w.heap.size, 0, none⟩), .pointer (some ⟨w.heap.size + 1, 0, none⟩)]] wc (Gives (S8 a b gb) m q (K8.popL j l, setw σ j { x with busy := true, bare := false }) rs L w)) :=
      (Pop_c (popK a b gb j l) hlk m _ wc _ q _ rs I4 (fun i ok hio => popped_takes IH hn' hnc hc hio hgh (HL.out.later X4) bp4 sb4 bl4)).mono fun e w2 hmk =>
        ((hmk.gives' (Made.refl _) I4).ext X4 K4).ext (Ext.of_made HM.out) (HI.out.keeps_made HM.out)
    have s0 := sb4.c0
    have s1 := sb4.c1
    have s2 := sb4.c2
    clear IH HSB HBL HBP HL HM HI NA NB q0 k2 k3 z2 z3 c3 hgh hn hn' hj I4 X4 K4 W4 sb4 bl4 bp4 hlk
    go_wp2_with fail
    refine HC.out.mono ?_
    rintro e w2 hg
    obtain ⟨v, rfl⟩ := hg.ret
    have HF := Lib.hid hg
    clear hg HC
    go_wp2_with fail
    go_ret
    exact HF.out
set_option maxRecDepth 100000 in
set_option maxHeartbeats 8000000 in
theorem code_push {l : List Bool} (hlk : LinkOK fl lk1) (IH : Code8 a b gb fl l) : Code8 a b gb fl (false :: l) := by
  intro m j wb n c q A w L σ rs y hi hgh hn hnc hc hl hy
  obtain ⟨x, hxj, hcase⟩ := enter_push hy
  obtain ⟨n, rfl⟩ : ∃ k, n = k + 1 := ⟨l.length, by rw [hn.out]; rfl⟩
  have hn' : Hid (n = l.length) := by have h := hn.out; simp only [List.length_cons] at h; show _ = _; omega
  obtain ⟨A', rfl⟩ : ∃ A', A = some A' := by
    obtain ⟨A', hA, _⟩ := hl 0 _ rfl
    exact ⟨A', hA⟩
  have hj : j < σ.r.length := (List.getElem?_eq_some_iff.1 hxj).1
  have hm := W3_made a fl (some A') (n + 1) c wb w
  obtain ⟨sb, bl, bp⟩ := W3_boxes a b gb fl (some A') (n + 1) c wb w (L := L) (fun k hk => hi.mut_lt hk)
  have hl3 := hl.later (Ext.of_made hm)
  have hi3 := hi.later hm
  obtain ⟨hv, sv, W3J⟩ : J8 gb σ.r L.own L.gh (W3 a fl (some A') (n + 1) c wb w) := hi3.rest
  have hk := W3J.wk j x wb hxj hgh
  have kc := hk.cells
  have q0 : (W3 a fl (some A') (n + 1) c wb w).cell? A' = some (.bool false) := by
    obtain ⟨a', ha, _, _, h3⟩ := hl3 0 _ rfl
    obtain rfl := Option.some.inj ha
    have e : A'.add 0 = A' := by simp [Addr.add]
    rw [e] at h3
    exact h3
  have hn0 : (0 : Int) ≤ (n : Int) := by omega
  have hnz : ((n : Int) + 1 == 0) = false := by simp; omega
  have c3 := bp.cell
  have c4 := bl.cell
  have s0 := sb.c0
  have s1 := sb.c1
  have s2 := sb.c2
  have hmf : ∀ (fn : Fn) (first cap : Array Value) (w : World), (Instr.makeFunc fn first cap).run Try.prog w = .ok (.func fn first cap) w := fun _ _ _ _ => rfl
  have HG : Hid (∀ (m : Nat) (y : K8 × St (List W8)) e w2, Gives (S8 a b gb) m q y rs L (W3 a fl (some A') (n + 1) c wb w).drew e w2 → Gives (S8 a b gb) m q y rs L w e w2 ∧ w2.cell? ⟨w.heap.size, 0, none⟩ = some (.pointer (some ⟨a, 0, none⟩)) ∧ w2.cell? ⟨w.heap.size, 1, none⟩ = some (.int .i64 0) ∧ w2.cell? ⟨w.heap.size, 2, none⟩ = some (.func (.func fl) #[] #[]) ∧ w2.cell? ⟨w.heap.size + 1, 0, none⟩ = some (.slice (some A') (n + 1) c) ∧ w2.cell? ⟨w.heap.size + 1 + 1, 0, none⟩ = some (.pointer (some ⟨wb, 0, none⟩)) ∧ ∃ v, e = .returned v) := by
    intro m y e w2 hg
    have hmd := Made.trans hm (Made.drewN _ 1)
    have hg' := hg.ext (Ext.of_made hmd) (hi.keeps_made hmd)
    obtain ⟨v, L2, rfl, hx2, _⟩ := hg
    have ed := Ext.of_made (S := S8 a b gb) (L := L) (Made.drewN (W3 a fl (some A') (n + 1) c wb w) 1)
    have s5 := (sb.later ed).later hx2
    exact ⟨hg', s5.c0, s5.c1, s5.c2, ((bl.later ed).later hx2).cell, ((bp.later ed).later hx2).cell, v, rfl⟩
  have k0 : (W3 a fl (some A') (n + 1) c wb w).cell? ⟨wb, 0, none⟩ = some (hv j) := by rw [cell_of_row _ _ _ _ _ _ kc]; rfl
  rcases hcase with ⟨h0, hent⟩ | ⟨i, hlast, rfl⟩
  · obtain ⟨A1, cc, hvj⟩ : ∃ A1 cc, hv j = .slice A1 0 cc := by
      obtain ⟨e0, e1⟩ := hk.row
      rw [h0] at e1
      rcases e1 with ⟨e1, e2⟩ | ⟨g', cap', cur, e1, hb, hgc, hnc, hcm, hcs, htk⟩
      · exact ⟨_, _, e1⟩
      · exact ⟨_, _, e1⟩
    rw [hvj] at k0
    have hmd := Made.trans hm (Made.drewN _ 1)
    have hid := hi.later hmd
    have hld := hl3.later (Ext.of_made (Made.drewN (W3 a fl (some A') (n + 1) c wb w) 1))
    clear hi hl hk kc W3J hi3 hm hmd hxj hvj h0 hmf hy
    by_cases hc1 : c = 1
    · have hl0 : l = [] := List.length_eq_zero_iff.1 (by have := hn'.out; omega)
      obtain rfl : n = 0 := by omega
      have HC : Hid (Calls Try.prog 51 #[.agg #[.pointer (some ⟨a, 0, none⟩), .int .i64 0, .func (.func fl) #[] #[]], .slice (some A') 0 0, .pointer (some ⟨wb, 0, none⟩)] (W3 a fl (some A') (0 + 1) c wb w).drew (Gives (S8 a b gb) m q y rs L (W3 a fl (some A') (0 + 1) c wb w).drew)) :=
        IH m j wb 0 0 q (some A') _ _ σ rs y hid hgh hn' (by omega) (by omega) (by rw [hl0]; exact Lies.nil) hent
      subst hc1
      clear IH hid hld hl3 sb bl bp hgh hn hn' hent hlk hj hl0 hn0 hnz
      have HG1 : Hid (∀ (m : Nat) (y : K8 × St (List W8)) e w2, Gives (S8 a b gb) m q y rs L (W3 a fl (some A') 1 1 wb w).drew e w2 → Gives (S8 a b gb) m q y rs L w e w2 ∧ w2.cell? ⟨w.heap.size, 0, none⟩ = some (.pointer (some ⟨a, 0, none⟩)) ∧ w2.cell? ⟨w.heap.size, 1, none⟩ = some (.int .i64 0) ∧ w2.cell? ⟨w.heap.size, 2, none⟩ = some (.func (.func fl) #[] #[]) ∧ w2.cell? ⟨w.heap.size + 1, 0, none⟩ = some (.slice (some A') 1 1) ∧ w2.cell? ⟨w.heap.size + 1 + 1, 0, none⟩ = some (.pointer (some ⟨wb, 0, none⟩)) ∧ ∃ v, e = .returned v) := HG
      clear HG
      have HG := HG1
      clear HG1
      simp only [W3, Nat.zero_add] at q0 k0 c3 c4 s0 s1 s2
      rw [show stk (S8 a b gb) 0 fl = .agg #[.pointer (some ⟨a, 0, none⟩), .int .i64 0, .func (.func fl) #[] #[]] from rfl]
      show Calls Try.prog 51 #[.agg #[.pointer (some ⟨a, 0, none⟩), .int .i64 0, .func (.func fl) #[] #[]], .slice (some A') 1 1, .pointer (some ⟨wb, 0, none⟩)] w (Gives (S8 a b gb) m q y rs L w)
      go_enter Try.func51, Try.ntmps51
      go_wp2_with fail
      go_region_held3 (fun w1 => w1.cell? ⟨w.heap.size, 0, none⟩ = some (.pointer (some ⟨a, 0, none⟩)) ∧ w1.cell? ⟨w.heap.size, 1, none⟩ = some (.int .i64 0) ∧ w1.cell? ⟨w.heap.size, 2, none⟩ = some (.func (.func fl) #[] #[]) ∧ w1.cell? ⟨w.heap.size + 1, 0, none⟩ = some (.slice (some A') 1 1) ∧ w1.cell? ⟨w.heap.size + 1 + 1, 0, none⟩ = some (.pointer (some ⟨wb, 0, none⟩))) (first | (refine ⟨?_, ?_, ?_, ?_, ?_⟩ <;> first | assumption | simpa using s0 | simpa using s1 | simpa using s2 | simpa using c4 | simpa using c3)) ((go_at_call 51; refine HC.out.mono ?_; rintro e w2 hmk; obtain ⟨hg, d0, d1, d2, d4, dw, v, rfl⟩ := HG.out m y e w2 hmk))
      go_wp2_with fail
      go_ret
      exact hg
    · have HC : Hid (Calls Try.prog 51 #[.agg #[.pointer (some ⟨a, 0, none⟩), .int .i64 0, .func (.func fl) #[] #[]], .slice (some (A'.add 1)) n (c - 1), .pointer (some ⟨wb, 0, none⟩)] (W3 a fl (some A') (n + 1) c wb w).drew (Gives (S8 a b gb) m q y rs L (W3 a fl (some A') (n + 1) c wb w).drew)) :=
        IH m j wb n (c - 1) q (some (A'.add 1)) _ _ σ rs y hid hgh hn' (by omega) (by omega) (Lies.tail hld) hent
      have hsl := fun w1 => run_tail A' (n := n) hc1 w1
      clear IH hid hld hl3 sb bl bp hgh hn hn' hent hlk hj
      simp only [W3] at q0 k0 c3 c4 s0 s1 s2
      rw [show stk (S8 a b gb) 0 fl = .agg #[.pointer (some ⟨a, 0, none⟩), .int .i64 0, .func (.func fl) #[] #[]] from rfl]
      go_enter Try.func51, Try.ntmps51
      go_wp2_with fail
      go_region_held3 (fun w1 => w1.cell? ⟨w.heap.size, 0, none⟩ = some (.pointer (some ⟨a, 0, none⟩)) ∧ w1.cell? ⟨w.heap.size, 1, none⟩ = some (.int .i64 0) ∧ w1.cell? ⟨w.heap.size, 2, none⟩ = some (.func (.func fl) #[] #[]) ∧ w1.cell? ⟨w.heap.size + 1, 0, none⟩ = some (.slice (some A') (n + 1) c) ∧ w1.cell? ⟨w.heap.size + 1 + 1, 0, none⟩ = some (.pointer (some ⟨wb, 0, none⟩))) (first | (refine ⟨?_, ?_, ?_, ?_, ?_⟩ <;> first | assumption | simpa using s0 | simpa using s1 | simpa using s2 | simpa using c4 | simpa using c3)) ((go_at_call 51; refine HC.out.mono ?_; rintro e w2 hmk; obtain ⟨hg, d0, d1, d2, d4, dw, v, rfl⟩ := HG.out m y e w2 hmk))
      go_wp2_with fail
      go_ret
      exact hg
  · obtain ⟨n1, hN⟩ : ∃ n1, x.hands.length = n1 + 1 := by
      cases hh : x.hands with
      | nil => rw [hh] at hlast; simp at hlast
      | cons z t => exact ⟨t.length, rfl⟩
    have hin : i ∈ x.hands := List.mem_of_getLast? hlast
    have hir := hk.rng i hin
    obtain ⟨g, cap, hvj, hcell⟩ : ∃ g cap, hv j = .slice (some ⟨g, 0, none⟩) (n1 + 1) cap ∧ (W3 a fl (some A') (n + 1) c wb w).cell? ⟨g, n1, none⟩ = some (.int .i64 i) := by
      obtain ⟨e0, e1⟩ := hk.row
      rcases e1 with ⟨e1, e2⟩ | ⟨g', cap', cur, e1, hb, hgc, hnc, hcm, hcs, htk⟩
      · omega
      · refine ⟨g', cap', by rw [e1, hN], ?_⟩
        rw [cell_of_row _ _ _ _ _ _ hgc]
        have h1 : (x.hands.map (Value.int .i64))[n1]? = some (.int .i64 i) := by
          rw [List.getElem?_map]
          rw [List.getLast?_eq_getElem?, hN] at hlast
          rw [show n1 = n1 + 1 - 1 from rfl, hlast]
          rfl
        rw [← htk, List.getElem?_take] at h1
        split at h1
        · simpa using h1
        · simp at h1
    rw [hvj] at k0
    obtain ⟨N, hNn⟩ : ∃ N, N = n1 + 1 := ⟨_, rfl⟩
    rw [← hNn] at k0
    have hw : IntKind.i64.wrap ((N : Int) - 1) = (n1 : Int) := by
      have h1 := (Array.getElem?_eq_some_iff.1 kc).1
      have h2 : n1 + 1 ≤ maxLen := by
        obtain ⟨e0, e1⟩ := hk.row
        rcases e1 with ⟨e1, e2⟩ | ⟨g', cap', cur, e1, hb, hgc, hnc, hcm, hcs, htk⟩
        · omega
        · omega
      unfold maxLen at h2
      rw [IntKind.wrap_i64]
      omega
    have hb0 : (0 : Int) ≤ (n1 : Int) := by omega
    have hb1 : (n1 : Int) < (N : Int) := by omega
    have hNz : ((N : Int) == 0) = false := by simp; omega
    have hmd := Made.trans hm (Made.drewN (W3 a fl (some A') (n + 1) c wb w) 1)
    have ed := Ext.of_made (S := S8 a b gb) (L := L) (Made.drewN (W3 a fl (some A') (n + 1) c wb w) 1)
    have HC : Hid (Calls Try.prog 79 #[.agg #[.pointer (some ⟨a, 0, none⟩), .int .i64 0, .func (.func fl) #[] #[]], .int .i64 i, .func (.func 80) #[] #[.pointer (some ⟨w.heap.size + 1 + 1, 0, none⟩), .pointer (some ⟨w.heap.size, 0, none⟩), .pointer (some ⟨w.heap.size + 1, 0, none⟩)]] (W3 a fl (some A') (n + 1) c wb w).drew (Gives (S8 a b gb) m q (K8.pshL j l i, σ) rs L w)) :=
      (Push_c (pushK a b gb j l i) hlk hir.1 (by omega) m _ _ _ q _ rs (hi.later hmd) (pushed_takes IH hn' hnc hc hgh (hl3.later ed) (bp.later ed) (sb.later ed) (bl.later ed))).mono fun e w2 hmk =>
        (hmk.gives' (Made.refl _) (hi.later hmd)).ext (Ext.of_made hmd) (hi.keeps_made hmd)
    have s0' := (sb.later ed).c0
    have s1' := (sb.later ed).c1
    have s2' := (sb.later ed).c2
    clear IH hi hl hk kc W3J hi3 hm hmd hxj hvj hy ed hl3 sb bl bp hgh hn hn' hlk hj hN hin hir hlast HG hNn
    simp only [W3] at q0 k0 c3 c4 s0 s1 s2 hcell s0' s1' s2'
    rw [show stk (S8 a b gb) 0 fl = .agg #[.pointer (some ⟨a, 0, none⟩), .int .i64 0, .func (.func fl) #[] #[]] from rfl]
    go_enter Try.func51, Try.ntmps51
    go_upto_region 8 with fail
    go_cut [6, 7] (fun s6 s7 wx => s6 = .nilFunc ∧ s7 = .int .i64 i ∧ wx = (W3 a fl (some A') (n + 1) c wb w).drew)
    case first =>
      go_region
      all_goals
        go_wp2_with fail
        go_meet
        exact ⟨rfl, rfl, rfl⟩
    case rest =>
      obtain ⟨rfl, rfl, rfl⟩ := hcut
      clear q0 k0 c3 c4 s0 s1 s2 hcell hw hb0 hb1 hNz
      go_wp2_with fail
      refine HC.out.mono ?_
      rintro e w2 hg
      obtain ⟨v, rfl⟩ := hg.ret
      have HF := Lib.hid hg
      clear hg HC
      go_wp2_with fail
      go_ret
      exact HF.out
/-- The code of acts, over any link. -/
theorem code_all (hlk : LinkOK fl lk1) : ∀ l, Code8 a b gb fl l
  | [] => code_nil
  | true :: l => code_pop hlk (code_all hlk l)
  | false :: l => code_push hlk (code_all hlk l)
end Go.Proofs.Ythllplocbciepaa.Kod.Eight
