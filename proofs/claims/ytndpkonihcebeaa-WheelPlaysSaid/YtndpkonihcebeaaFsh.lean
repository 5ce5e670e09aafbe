/- Package knelllaw10, walked: fresh. -/
import Derived.Test.YtndpkonihcebeaaWps2
namespace Go.Proofs.Ytndpkonihcebeaa.Whl
open Go.RowKit Go.Proofs.Ytndpkonihcebeaa Go.Proofs.Ytndpkonihcebeaa.Cell Go.Proofs.Ytndpkonihcebeaa.Seq Go.Proofs.Ytndpkonihcebeaa.Num Go.Proofs.Ytndpkonihcebeaa.SetN Go.Proofs.Ytndpkonihcebeaa.Dig Go.Proofs.Ytndpkonihcebeaa.Bits
set_option linter.unusedVariables false
set_option linter.unusedSimpArgs false

theorem results_cell_tmp1 {P : Program} {fn : Func} {p t : Tmp} {ty : TypeId} (h : fn.results = #[.cell p ty, .tmp t]) (tmps : Array Value) (w : World) (g : Nat) (tt : TypeId) (cs : Array Value) (fr : Nat × Nat) (d : TypeDesc)
    (hp : tmps.getD p undef = .pointer (some ⟨g, 0, none⟩)) (hg : w.heap[g]? = some (.cells cs tt fr))
    (hu : P.underlying ty = some d) (hd : (match d with | .struct _ | .array _ _ => true | _ => false) = true) (hi : (P.info? ty).map (·.size) = some cs.size) :
    (results fn tmps).run P w = .ok (.tuple #[.agg cs, tmps.getD t undef]) w := by
  have hp' : tmps[p]?.getD undef = .pointer (some ⟨g, 0, none⟩) := by simpa using hp
  simp [results, h, hp', asAddr, run_loadVar_row w g tt ty cs fr d hg hu hd hi]
theorem row_set {w : World} {g o : Nat} {cs : Array Value} {t : TypeId} {fr : Nat × Nat} (h : w.heap[g]? = some (.cells cs t fr)) (v : Value) : (w.setCell ⟨g, o, none⟩ v).heap[g]? = some (.cells (cs.setIfInBounds o v) t fr) := by
  rw [setCell_eq_setRow _ _ _ _ _ _ _ h, heap_setRow_same _ _ _ _ _ _ h]
/-- Seven cells are written. -/
def set7 (w : World) (g : Nat) (v0 v1 v2 v3 v4 v5 v6 : Value) : World := ((((((w.setCell ⟨g, 0, none⟩ v0).setCell ⟨g, 1, none⟩ v1).setCell ⟨g, 2, none⟩ v2).setCell ⟨g, 3, none⟩ v3).setCell ⟨g, 4, none⟩ v4).setCell ⟨g, 5, none⟩ v5).setCell ⟨g, 6, none⟩ v6
theorem rows7 {w : World} {g : Nat} {t : TypeId} {fr : Nat × Nat} {c0 c1 c2 c3 c4 c5 c6 : Value} (v0 v1 v2 v3 v4 v5 v6 : Value) (h : w.heap[g]? = some (.cells #[c0, c1, c2, c3, c4, c5, c6] t fr)) : (set7 w g v0 v1 v2 v3 v4 v5 v6).heap[g]? = some (.cells #[v0, v1, v2, v3, v4, v5, v6] t fr) := by
  have a0 : (w.setCell ⟨g, 0, none⟩ v0).heap[g]? = some (.cells #[v0, c1, c2, c3, c4, c5, c6] t fr) := row_set (o := 0) h v0
  have a1 : ((w.setCell ⟨g, 0, none⟩ v0).setCell ⟨g, 1, none⟩ v1).heap[g]? = some (.cells #[v0, v1, c2, c3, c4, c5, c6] t fr) := row_set (o := 1) a0 v1
  have a2 : (((w.setCell ⟨g, 0, none⟩ v0).setCell ⟨g, 1, none⟩ v1).setCell ⟨g, 2, none⟩ v2).heap[g]? = some (.cells #[v0, v1, v2, c3, c4, c5, c6] t fr) := row_set (o := 2) a1 v2
  have a3 : ((((w.setCell ⟨g, 0, none⟩ v0).setCell ⟨g, 1, none⟩ v1).setCell ⟨g, 2, none⟩ v2).setCell ⟨g, 3, none⟩ v3).heap[g]? = some (.cells #[v0, v1, v2, v3, c4, c5, c6] t fr) := row_set (o := 3) a2 v3
  have a4 : (((((w.setCell ⟨g, 0, none⟩ v0).setCell ⟨g, 1, none⟩ v1).setCell ⟨g, 2, none⟩ v2).setCell ⟨g, 3, none⟩ v3).setCell ⟨g, 4, none⟩ v4).heap[g]? = some (.cells #[v0, v1, v2, v3, v4, c5, c6] t fr) := row_set (o := 4) a3 v4
  have a5 : ((((((w.setCell ⟨g, 0, none⟩ v0).setCell ⟨g, 1, none⟩ v1).setCell ⟨g, 2, none⟩ v2).setCell ⟨g, 3, none⟩ v3).setCell ⟨g, 4, none⟩ v4).setCell ⟨g, 5, none⟩ v5).heap[g]? = some (.cells #[v0, v1, v2, v3, v4, v5, c6] t fr) := row_set (o := 5) a4 v5
  exact row_set (o := 6) a5 v6
theorem set7_other (w : World) (g : Nat) (v0 v1 v2 v3 v4 v5 v6 : Value) (k : Nat) (h : k ≠ g) : (set7 w g v0 v1 v2 v3 v4 v5 v6).heap[k]? = w.heap[k]? := by
  unfold set7
  rw [Cell.heap_setCell_other _ _ _ _ _ h, Cell.heap_setCell_other _ _ _ _ _ h, Cell.heap_setCell_other _ _ _ _ _ h, Cell.heap_setCell_other _ _ _ _ _ h, Cell.heap_setCell_other _ _ _ _ _ h, Cell.heap_setCell_other _ _ _ _ _ h, Cell.heap_setCell_other _ _ _ _ _ h]
theorem set7_size (w : World) (g : Nat) (v0 v1 v2 v3 v4 v5 v6 : Value) : (set7 w g v0 v1 v2 v3 v4 v5 v6).heap.size = w.heap.size := by simp [set7, World.setCell]
theorem sc_os (w : World) (a : Addr) (v : Value) : (w.setCell a v).os = w.os := rfl
theorem sc_tape (w : World) (a : Addr) (v : Value) : (w.setCell a v).tape = w.tape := rfl
theorem sc_output (w : World) (a : Addr) (v : Value) : (w.setCell a v).output = w.output := rfl
theorem set7_os (w : World) (g : Nat) (v0 v1 v2 v3 v4 v5 v6 : Value) : (set7 w g v0 v1 v2 v3 v4 v5 v6).os = w.os ∧ (set7 w g v0 v1 v2 v3 v4 v5 v6).tape = w.tape ∧ (set7 w g v0 v1 v2 v3 v4 v5 v6).output = w.output := by
  unfold set7
  refine ⟨?_, ?_, ?_⟩
  · rw [sc_os, sc_os, sc_os, sc_os, sc_os, sc_os, sc_os]
  · rw [sc_tape, sc_tape, sc_tape, sc_tape, sc_tape, sc_tape, sc_tape]
  · rw [sc_output, sc_output, sc_output, sc_output, sc_output, sc_output, sc_output]
theorem New_ex (n : Nat) (h1 : 1 ≤ n) (h2 : n ≤ 1048576) (w : World) : Calls Try.prog 39 #[.int .i64 (n : Int)] w fun e w' =>
    ∃ a b, e = .returned (.tuple #[.pointer (some ⟨a, 0, none⟩), .int .i64 0]) ∧ Arena w' a b 0 (List.replicate n 0) ∧ w.heap.size ≤ a ∧ w.heap.size ≤ b ∧ Made w w' :=
  (New_yes n h1 h2 w).mono fun e w' ⟨h3, h4, h5, h6⟩ => ⟨_, _, h3, h4, by omega, by omega, h6⟩
set_option maxRecDepth 100000 in
set_option maxHeartbeats 4000000 in
theorem fresh_c (L B S n : Nat) (hL1 : 1 ≤ L) (hL8 : L ≤ 8) (hB : B ≤ 6) (hB1 : 1 ≤ B) (hS : S = 2 ^ B) (hS2 : 2 ≤ S) (hS64 : S ≤ 64) (hn : n ≤ 100) (w : World) : Calls Try.prog 30 #[.int .i64 (L : Int), .int .i64 (B : Int), .int .i64 (n : Int)] w fun e w' =>
    ∃ a b bl bs, e = .returned (.tuple #[.agg (WV a bl bs L B), .bool true]) ∧ Arena w' a b 0 (List.replicate (1 + L * (1 + S) + n) 0) ∧ LEnv a b bl bs L S w' ∧ w.heap.size ≤ a ∧ w.heap.size ≤ b ∧ w.heap.size ≤ bl ∧ w.heap.size ≤ bs ∧ Made w w' := by
  have h1 : ((L * (1 + S) : Nat) : Int) ≤ 520 := by
    have : L * (1 + S) ≤ 8 * 65 := Nat.mul_le_mul hL8 (by omega)
    omega
  have h0 : 0 ≤ ((L * (1 + S) : Nat) : Int) := by omega
  have HNW : Hid (∀ w, Calls Try.prog 39 #[.int .i64 ((1 + L * (1 + S) + n : Nat) : Int)] w fun e w' => ∃ a b, e = .returned (.tuple #[.pointer (some ⟨a, 0, none⟩), .int .i64 0]) ∧ Arena w' a b 0 (List.replicate (1 + L * (1 + S) + n) 0) ∧ w.heap.size ≤ a ∧ w.heap.size ≤ b ∧ Made w w') := fun w => New_ex (1 + L * (1 + S) + n) (by omega) (by omega) w
  push_cast at h0 h1
  have HSL := Lib.hid (shl_wrap hS hB)
  have hmf := makeFunc_run
  have hSI : (S : Int) ≤ 64 := by omega
  have hnI : (n : Int) ≤ 100 := by omega
  have HC : Hid ((1 + (L : Int) * (1 + (S : Int)) + (n : Int)) = ((1 + L * (1 + S) + n : Nat) : Int)) := by show _ = _; push_cast; rfl
  have HEX : Hid (1 ≤ L ∧ L ≤ 8 ∧ 2 ≤ S ∧ S ≤ 64) := ⟨hL1, hL8, hS2, hS64⟩
  clear hS hL1 hL8 hS2 hS64 hB hB1 hn
  go_enter Try.func30, Try.ntmps30
  go_upto_region 2 with fail
  rw [HSL.out]
  go_wp2_with fail
  rw [HC.out]
  refine (HNW.out _).mono ?_
  rintro e w1 ⟨a, b, rfl, hA, ha, hb, hm⟩
  simp only [World.size_alloc] at ha hb
  have hs : w.heap.size + 1 + 1 < w1.heap.size := by have := hm.size; simp only [World.size_alloc] at this; omega
  have hrow : w1.heap[w.heap.size + 1]? = some (.cells #[.pointer none, .int .i64 0, .int .i64 0, .int .i64 0, .nilFunc, .nilFunc, .nilFunc] 71 (0, 0)) := (hm.block _ (by simp only [World.size_alloc]; omega)).trans ((heap_alloc_old _ _ (by simp only [World.size_alloc]; omega)).trans (by
    have h := heap_alloc_new (w.alloc (.cells #[.int .i64 (L : Int)] 3)) (.cells #[.pointer none, .int .i64 0, .int .i64 0, .int .i64 0, .nilFunc, .nilFunc, .nilFunc] 71)
    simp only [World.size_alloc] at h
    exact h))
  have hcl : w1.heap[w.heap.size]? = some (OI L) := (hm.block _ (by simp only [World.size_alloc]; omega)).trans ((heap_alloc_old _ _ (by simp only [World.size_alloc]; omega)).trans ((heap_alloc_old _ _ (by simp only [World.size_alloc]; omega)).trans (heap_alloc_new w (.cells #[.int .i64 (L : Int)] 3))))
  have hcs : w1.heap[w.heap.size + 1 + 1]? = some (OI S) := (hm.block _ (by simp only [World.size_alloc]; omega)).trans (by
    have h := heap_alloc_new ((w.alloc (.cells #[.int .i64 (L : Int)] 3)).alloc (.cells #[.pointer none, .int .i64 0, .int .i64 0, .int .i64 0, .nilFunc, .nilFunc, .nilFunc] 71)) (OI S)
    simp only [World.size_alloc] at h
    exact h)
  have mw1 : Made w w1 := Made.trans ((((Made.refl w).alloc (Nat.le_refl _) _).alloc (by simp only [World.size_alloc]; omega) _).alloc (by simp only [World.size_alloc]; omega) _) hm
  have kl : w1.cell? ⟨w.heap.size, 0, none⟩ = some (.int .i64 (L : Int)) := by rw [cell_of_row _ _ _ _ _ _ hcl]; rfl
  have HA := Lib.hid hA
  have HCL := Lib.hid hcl
  have HCS := Lib.hid hcs
  have HR := Lib.hid hrow
  have HM := Lib.hid mw1
  have HS := Lib.hid hs
  have HAB := Lib.hid (And.intro ha hb)
  clear hA hrow hcl hcs mw1 hm HNW HC HSL ha hb hs
  go_upto_region 7 with fail
  obtain ⟨W, hW⟩ : ∃ W, W = w1.alloc (.cells (WV a w.heap.size (w.heap.size + 1 + 1) L B) 71) := ⟨_, rfl⟩
  have hs := HS.out
  have rg : W.heap[w1.heap.size]? = some (.cells (WV a w.heap.size (w.heap.size + 1 + 1) L B) 71 (0, 0)) := by
    rw [hW]
    exact heap_alloc_new w1 _
  have oth : ∀ k : Nat, k < w1.heap.size → W.heap[k]? = w1.heap[k]? := fun k hk => by
    rw [hW, heap_alloc_old _ _ hk]
  have sW : W.heap.size = w1.heap.size + 1 := by rw [hW]; simp [World.setCell, World.size_alloc]
  have oW : W.os = w1.os ∧ W.tape = w1.tape ∧ W.output = w1.output := by rw [hW]; exact ⟨rfl, rfl, rfl⟩
  rw [← hW]
  have RG := Lib.hid rg
  have R2 := Lib.hid ((oth _ (by omega)).trans HR.out)
  obtain ⟨W7, hW7⟩ : ∃ W7, W7 = set7 W (w.heap.size + 1) (.pointer (some ⟨a, 0, none⟩)) (.int .i64 (L : Int)) (.int .i64 (B : Int)) (.int .i64 0) (.func (.func 59) #[] #[]) (.func (.func 60) #[] #[.pointer (some ⟨w.heap.size, 0, none⟩), .pointer (some ⟨w.heap.size + 1 + 1, 0, none⟩)]) (.func (.func 61) #[] #[.pointer (some ⟨w.heap.size, 0, none⟩), .pointer (some ⟨w.heap.size + 1 + 1, 0, none⟩)]) := ⟨_, rfl⟩
  have r7 : W7.heap[w.heap.size + 1]? = some (.cells (WV a w.heap.size (w.heap.size + 1 + 1) L B) 71 (0, 0)) := by
    rw [hW7]
    exact rows7 _ _ _ _ _ _ _ R2.out
  have HF : Hid (Arena W7 a b 0 (List.replicate (1 + L * (1 + S) + n) 0) ∧ LEnv a b w.heap.size (w.heap.size + 1 + 1) L S W7 ∧ w.heap.size ≤ a ∧ w.heap.size ≤ b ∧ w.heap.size ≤ w.heap.size ∧ w.heap.size ≤ w.heap.size + 1 + 1 ∧ Made w W7) := by
    obtain ⟨ha, hb⟩ := HAB.out
    obtain ⟨e1, e2, e3, e4⟩ := HEX.out
    have la := (Array.getElem?_eq_some_iff.1 HA.out.ha).1
    have lb := (Array.getElem?_eq_some_iff.1 HA.out.hb).1
    have o7 : ∀ k : Nat, k ≠ w.heap.size + 1 → k < w1.heap.size → W7.heap[k]? = w1.heap[k]? := fun k h1 h2 => by rw [hW7, set7_other _ _ _ _ _ _ _ _ _ _ h1]; exact oth k h2
    refine ⟨⟨(o7 a (by omega) la).trans HA.out.ha, (o7 b (by omega) lb).trans HA.out.hb, HA.out.ne, by omega, by omega⟩, ⟨(o7 _ (by omega) (by omega)).trans HCL.out, (o7 _ (by omega) (by omega)).trans HCS.out, e1, e2, e3, e4, by omega⟩, by omega, by omega, by omega, by omega, ?_⟩
    have hm := HM.out
    refine ⟨?_, ?_, ?_, ?_, fun k hk => ?_⟩
    · rw [hW7, (set7_os _ _ _ _ _ _ _ _ _).1]; exact oW.1.trans hm.os
    · rw [hW7, (set7_os _ _ _ _ _ _ _ _ _).2.1]; exact oW.2.1.trans hm.tape
    · rw [hW7, (set7_os _ _ _ _ _ _ _ _ _).2.2]; exact oW.2.2.trans hm.output
    · rw [hW7, set7_size, sW]; omega
    · rw [o7 k (by omega) (by omega)]; exact hm.block k hk
  have HW7 := Lib.hid hW7
  have H7 := Lib.hid r7
  clear hW7 r7 rg oth sW oW hW HA HCL HCS HR HM HAB HEX hs HS kl h0 h1
  generalize hg1 : w1.heap.size = g1 at *
  generalize hg2 : w.heap.size + 1 = g2 at *
  clear hg1
  have k0 : W.cell? ⟨g1, 0, none⟩ = some (.pointer (some ⟨a, 0, none⟩)) := by rw [cell_of_row _ _ _ _ _ _ RG.out]; rfl
  have k1 : W.cell? ⟨g1, 1, none⟩ = some (.int .i64 (L : Int)) := by rw [cell_of_row _ _ _ _ _ _ RG.out]; rfl
  have k2 : W.cell? ⟨g1, 2, none⟩ = some (.int .i64 (B : Int)) := by rw [cell_of_row _ _ _ _ _ _ RG.out]; rfl
  have k3 : W.cell? ⟨g1, 3, none⟩ = some (.int .i64 0) := by rw [cell_of_row _ _ _ _ _ _ RG.out]; rfl
  have k4 : W.cell? ⟨g1, 4, none⟩ = some (.func (.func 59) #[] #[]) := by rw [cell_of_row _ _ _ _ _ _ RG.out]; rfl
  have k5 : W.cell? ⟨g1, 5, none⟩ = some (.func (.func 60) #[] #[.pointer (some ⟨w.heap.size, 0, none⟩), .pointer (some ⟨g2 + 1, 0, none⟩)]) := by rw [cell_of_row _ _ _ _ _ _ RG.out]; rfl
  have k6 : W.cell? ⟨g1, 6, none⟩ = some (.func (.func 61) #[] #[.pointer (some ⟨w.heap.size, 0, none⟩), .pointer (some ⟨g2 + 1, 0, none⟩)]) := by rw [cell_of_row _ _ _ _ _ _ RG.out]; rfl
  have z0 : W.frozen? ⟨g2, 0, none⟩ = false := frozen_of_row _ _ _ _ _ R2.out
  have z1 : W.frozen? ⟨g2, 1, none⟩ = false := frozen_of_row _ _ _ _ _ R2.out
  have z2 : W.frozen? ⟨g2, 2, none⟩ = false := frozen_of_row _ _ _ _ _ R2.out
  have z3 : W.frozen? ⟨g2, 3, none⟩ = false := frozen_of_row _ _ _ _ _ R2.out
  have z4 : W.frozen? ⟨g2, 4, none⟩ = false := frozen_of_row _ _ _ _ _ R2.out
  have z5 : W.frozen? ⟨g2, 5, none⟩ = false := frozen_of_row _ _ _ _ _ R2.out
  have z6 : W.frozen? ⟨g2, 6, none⟩ = false := frozen_of_row _ _ _ _ _ R2.out
  have y0 : W.cell? ⟨g2, 0, none⟩ = some (.pointer none) := by rw [cell_of_row _ _ _ _ _ _ R2.out]; rfl
  have y1 : W.cell? ⟨g2, 1, none⟩ = some (.int .i64 0) := by rw [cell_of_row _ _ _ _ _ _ R2.out]; rfl
  have y2 : W.cell? ⟨g2, 2, none⟩ = some (.int .i64 0) := by rw [cell_of_row _ _ _ _ _ _ R2.out]; rfl
  have y3 : W.cell? ⟨g2, 3, none⟩ = some (.int .i64 0) := by rw [cell_of_row _ _ _ _ _ _ R2.out]; rfl
  have y4 : W.cell? ⟨g2, 4, none⟩ = some (.nilFunc) := by rw [cell_of_row _ _ _ _ _ _ R2.out]; rfl
  have y5 : W.cell? ⟨g2, 5, none⟩ = some (.nilFunc) := by rw [cell_of_row _ _ _ _ _ _ R2.out]; rfl
  have y6 : W.cell? ⟨g2, 6, none⟩ = some (.nilFunc) := by rw [cell_of_row _ _ _ _ _ _ R2.out]; rfl
  have HZ := Lib.hid (show (Try.prog.info? 71).map (·.size) = some 7 by kernel_rfl)
  unfold set7 at HW7
  go_wp2_with fail
  rw [← HW7.out]
  refine bodyPost_ret (results_cell_tmp1 rfl _ _ g2 71 (WV a w.heap.size (g2 + 1) L B) (0, 0) _ ?hp ?hg Try.underlying71 rfl HZ.out) rfl ?_
  case hp => simp [Act.put]
  case hg => exact H7.out
  obtain ⟨f1, f2, f3, f4, f5, f6, f7⟩ := HF.out
  exact ⟨a, b, w.heap.size, g2 + 1, rfl, f1, f2, f3, f4, f5, f6, f7⟩
end Go.Proofs.Ytndpkonihcebeaa.Whl
