/- Layer 9's laws: small functions. -/
import Derived.Test.YtndpkonihcebeaaList9
import Derived.Test.YtndpkonihcebeaaCode9c
namespace Go.Proofs.Ytndpkonihcebeaa.Kod.Nine
open Go.RowKit Go.Proofs.Ytndpkonihcebeaa Go.Proofs.Ytndpkonihcebeaa.Cell Go.Proofs.Ytndpkonihcebeaa.Wd
set_option linter.unusedVariables false
set_option linter.unusedSimpArgs false
variable {a b : Nat} {nn : Int} {eb : Option Nat} {fd : FuncId} {cd : Array Value}

/-- A new box, by value. -/
abbrev bxf (a ba bn : Nat) : Array Value := #[.pointer (some ⟨a, 0, none⟩), .int .i64 0, .func (.func 40) #[] #[], .func (.func 41) #[] #[.pointer (some ⟨ba, 0, none⟩), .pointer (some ⟨bn, 0, none⟩)], .pointer (some ⟨a, 0, none⟩), .int .i64 1, .func (.func 40) #[] #[]]
set_option maxRecDepth 100000 in
set_option maxHeartbeats 2000000 in
theorem BoxList_c {w : World} {a b ba bn : Nat} {c : Int} {xs s : List Int} {nn : Nat} (hA : Arena w a b c xs) (hw : ∀ x ∈ xs, 0 ≤ x ∧ x < 18446744073709551616) (hs : Chn nn xs (ix (xs.getD 0 0)) s) (hxl : xs.length = 2 + 2 * nn) (hnn : nn ≤ 100) (hmany : s.length ≤ nn) :
    Calls Try.prog 24 #[.agg (bxf a ba bn)] w fun e w' => ∃ A c, e = .returned (.slice A s.length c) ∧ w'.ownsRow w.heap.size 3 1 (.slice A s.length c) s.length (s.map (.int .i64)) ∧ Made w w' := by
  have m0 : Made w (w.alloc (.cells (bxf a ba bn) 31)) := (Made.refl w).alloc (Nat.le_refl _) _
  have HL := Lib.hid (List_c (qd := 0) (hA.later m0) hw (by omega) hs hxl hnn hmany)
  have HM := Lib.hid m0
  clear hA hw hs hxl hnn hmany m0
  go_enter Try.func24, Try.ntmps24
  go_wp2_with fail
  refine HL.out.mono ?_
  rintro e w2 ⟨A, cp, rfl, hr, hm⟩
  have HR : Hid (w2.ownsRow w.heap.size 3 1 (.slice A s.length cp) s.length (s.map (.int .i64))) := row_mono hr (by simp only [World.size_alloc]; omega)
  have HM2 := Lib.hid (Made.trans HM.out hm)
  clear hr hm HL
  go_wp2_with fail
  go_ret
  exact ⟨A, cp, rfl, HR.out, HM2.out⟩
theorem results_cell_tmp1 {P : Program} {fn : Func} {p t : Tmp} {ty : TypeId} (h : fn.results = #[.cell p ty, .tmp t]) (tmps : Array Value) (w : World) (g : Nat) (tt : TypeId) (cs : Array Value) (fr : Nat × Nat) (d : TypeDesc)
    (hp : tmps.getD p undef = .pointer (some ⟨g, 0, none⟩)) (hg : w.heap[g]? = some (.cells cs tt fr))
    (hu : P.underlying ty = some d) (hd : (match d with | .struct _ | .array _ _ => true | _ => false) = true) (hi : (P.info? ty).map (·.size) = some cs.size) :
    (results fn tmps).run P w = .ok (.tuple #[.agg cs, tmps.getD t undef]) w := by
  have hp' : tmps[p]?.getD undef = .pointer (some ⟨g, 0, none⟩) := by simpa using hp
  simp [results, h, hp', asAddr, run_loadVar_row w g tt ty cs fr d hg hu hd hi]
theorem row_set {w : World} {g o : Nat} {cs : Array Value} {t : TypeId} {fr : Nat × Nat} (h : w.heap[g]? = some (.cells cs t fr)) (v : Value) : (w.setCell ⟨g, o, none⟩ v).heap[g]? = some (.cells (cs.setIfInBounds o v) t fr) := by
  rw [setCell_eq_setRow _ _ _ _ _ _ _ h, heap_setRow_same _ _ _ _ _ _ h]
/-- Seven cells are written. -/
def set7 (w : World) (g : Nat) (v0 v1 v2 v3 v4 v5 v6 : Value) : World := ((((((w.setCell ⟨g, 0, none⟩ v0).setCell ⟨g, 1, none⟩ v1).setCell ⟨g, 2, none⟩ v2).setCell ⟨g, 3, none⟩ v3).setCell ⟨g, 4, none⟩ v4).setCell ⟨g, 5, none⟩ v5).setCell ⟨g, 6, none⟩ v6
theorem wrote7 (w : World) (g : Nat) (v0 v1 v2 v3 v4 v5 v6 : Value) : Wrote (fun k => k = g) w (set7 w g v0 v1 v2 v3 v4 v5 v6) :=
  ((((((Wrote.set g 0 w v0).trans (Wrote.set g 1 _ v1)).trans (Wrote.set g 2 _ v2)).trans (Wrote.set g 3 _ v3)).trans (Wrote.set g 4 _ v4)).trans (Wrote.set g 5 _ v5)).trans (Wrote.set g 6 _ v6)
theorem rows7 {w : World} {g : Nat} {t : TypeId} {fr : Nat × Nat} {c0 c1 c2 c3 c4 c5 c6 : Value} (v0 v1 v2 v3 v4 v5 v6 : Value) (h : w.heap[g]? = some (.cells #[c0, c1, c2, c3, c4, c5, c6] t fr)) : (set7 w g v0 v1 v2 v3 v4 v5 v6).heap[g]? = some (.cells #[v0, v1, v2, v3, v4, v5, v6] t fr) := by
  have a0 : (w.setCell ⟨g, 0, none⟩ v0).heap[g]? = some (.cells #[v0, c1, c2, c3, c4, c5, c6] t fr) := row_set (o := 0) h v0
  have a1 : ((w.setCell ⟨g, 0, none⟩ v0).setCell ⟨g, 1, none⟩ v1).heap[g]? = some (.cells #[v0, v1, c2, c3, c4, c5, c6] t fr) := row_set (o := 1) a0 v1
  have a2 : (((w.setCell ⟨g, 0, none⟩ v0).setCell ⟨g, 1, none⟩ v1).setCell ⟨g, 2, none⟩ v2).heap[g]? = some (.cells #[v0, v1, v2, c3, c4, c5, c6] t fr) := row_set (o := 2) a1 v2
  have a3 : ((((w.setCell ⟨g, 0, none⟩ v0).setCell ⟨g, 1, none⟩ v1).setCell ⟨g, 2, none⟩ v2).setCell ⟨g, 3, none⟩ v3).heap[g]? = some (.cells #[v0, v1, v2, v3, c4, c5, c6] t fr) := row_set (o := 3) a2 v3
  have a4 : (((((w.setCell ⟨g, 0, none⟩ v0).setCell ⟨g, 1, none⟩ v1).setCell ⟨g, 2, none⟩ v2).setCell ⟨g, 3, none⟩ v3).setCell ⟨g, 4, none⟩ v4).heap[g]? = some (.cells #[v0, v1, v2, v3, v4, c5, c6] t fr) := row_set (o := 4) a3 v4
  have a5 : ((((((w.setCell ⟨g, 0, none⟩ v0).setCell ⟨g, 1, none⟩ v1).setCell ⟨g, 2, none⟩ v2).setCell ⟨g, 3, none⟩ v3).setCell ⟨g, 4, none⟩ v4).setCell ⟨g, 5, none⟩ v5).heap[g]? = some (.cells #[v0, v1, v2, v3, v4, v5, c6] t fr) := row_set (o := 5) a4 v5
  exact row_set (o := 6) a5 v6
set_option maxRecDepth 100000 in
set_option maxHeartbeats 4000000 in
theorem fresh_c (n : Nat) (hn : n ≤ 100) (w : World) : Calls Try.prog 13 #[.int .i64 (n : Int)] w fun e w' =>
    ∃ a b ba bn, e = .returned (.tuple #[.agg (bxf a ba bn), .bool true]) ∧ Arena w' a b 0 (List.replicate (2 + 2 * n) 0) ∧ w.heap.size ≤ a ∧ w.heap.size ≤ b ∧ w.heap.size ≤ ba ∧ w.heap.size ≤ bn ∧ ba ≠ a ∧ ba ≠ b ∧ bn ≠ a ∧ bn ≠ b ∧ w'.cell? ⟨ba, 0, none⟩ = some (.pointer (some ⟨a, 0, none⟩)) ∧ w'.cell? ⟨bn, 0, none⟩ = some (.int .i64 (n : Int)) ∧ Made w w' := by
  have HNW : Hid (∀ w, Calls Try.prog 39 #[.int .i64 (2 + 2 * n : Nat)] w fun e w' => ∃ a b, e = .returned (.tuple #[.pointer (some ⟨a, 0, none⟩), .int .i64 0]) ∧ Arena w' a b 0 (List.replicate (2 + 2 * n) 0) ∧ w.heap.size ≤ a ∧ w.heap.size ≤ b ∧ Made w w') := fun w => New_ex (2 + 2 * n) (by omega) (by omega) w
  have hmf : ∀ (fn : Fn) (first cap : Array Value) (w : World), (Instr.makeFunc fn first cap).run Try.prog w = .ok (.func fn first cap) w := fun _ _ _ _ => rfl
  go_enter Try.func13, Try.ntmps13
  go_wp2_with fail
  rw [show (2 + 2 * (n : Int)) = ((2 + 2 * n : Nat) : Int) by omega]
  refine (HNW.out _).mono ?_
  rintro e w1 ⟨a, b, rfl, hA, ha, hb, hm⟩
  simp only [World.size_alloc] at ha hb
  have hs : w.heap.size + 1 < w1.heap.size := by have := hm.size; simp only [World.size_alloc] at this; omega
  have hrow : w1.heap[w.heap.size + 1]? = some (.cells #[.pointer none, .int .i64 0, .nilFunc, .nilFunc, .pointer none, .int .i64 0, .nilFunc] 31 (0, 0)) := (hm.block _ (by simp only [World.size_alloc]; omega)).trans (by
    have h := heap_alloc_new (w.alloc (.cells #[.int .i64 (n : Int)] 3)) (.cells #[.pointer none, .int .i64 0, .nilFunc, .nilFunc, .pointer none, .int .i64 0, .nilFunc] 31)
    simp only [World.size_alloc] at h
    exact h)
  have hcn : w1.heap[w.heap.size]? = some (.cells #[.int .i64 (n : Int)] 3 (0, 0)) := (hm.block _ (by simp only [World.size_alloc]; omega)).trans ((heap_alloc_old _ _ (by simp only [World.size_alloc]; omega)).trans (heap_alloc_new w (.cells #[.int .i64 (n : Int)] 3)))
  have mw1 : Made w w1 := Made.trans (((Made.refl w).alloc (Nat.le_refl _) _).alloc (by simp only [World.size_alloc]; omega) _) hm
  obtain ⟨W, hW⟩ : ∃ W, W = (w1.alloc (.cells #[.pointer (some ⟨a, 0, none⟩)] 25)).alloc (.cells #[.pointer (some ⟨a, 0, none⟩), .int .i64 1, .func (.func 40) #[] #[]] 29) := ⟨_, rfl⟩
  have mW : Made w1 W := by rw [hW]; exact ((Made.refl _).alloc (Nat.le_refl _) _).alloc (by simp only [World.size_alloc]; omega) _
  have r0 : W.heap[w.heap.size + 1]? = some (.cells #[.pointer none, .int .i64 0, .nilFunc, .nilFunc, .pointer none, .int .i64 0, .nilFunc] 31 (0, 0)) := (mW.block _ hs).trans hrow
  have r1 : W.heap[w1.heap.size]? = some (.cells #[.pointer (some ⟨a, 0, none⟩)] 25 (0, 0)) := by
    rw [hW]
    exact (heap_alloc_old _ _ (by simp only [World.size_alloc]; omega)).trans (heap_alloc_new _ _)
  have r2 : W.heap[w1.heap.size + 1]? = some (.cells #[.pointer (some ⟨a, 0, none⟩), .int .i64 1, .func (.func 40) #[] #[]] 29 (0, 0)) := by
    rw [hW]
    have h := heap_alloc_new (w1.alloc (.cells #[.pointer (some ⟨a, 0, none⟩)] 25)) (.cells #[.pointer (some ⟨a, 0, none⟩), .int .i64 1, .func (.func 40) #[] #[]] 29)
    simp only [World.size_alloc] at h
    exact h
  have rA : Arena W a b 0 (List.replicate (2 + 2 * n) 0) := hA.later mW
  have mw : Made w W := Made.trans mw1 mW
  have rn : W.heap[w.heap.size]? = some (.cells #[.int .i64 (n : Int)] 3 (0, 0)) := (mW.block _ (by omega)).trans hcn
  have rA2 := Lib.hid rA
  have MW := Lib.hid mw
  have RN := Lib.hid rn
  have R1 := Lib.hid r1
  have hne1 : a < w1.heap.size := lt_of_at hA.ha
  have hne2 : b < w1.heap.size := lt_of_at hA.hb
  go_wp2_with fail
  rw [← hW]
  have q0 : W.cell? ⟨w1.heap.size, 0, none⟩ = some (.pointer (some ⟨a, 0, none⟩)) := by rw [cell_of_row _ _ _ _ _ _ r1]; rfl
  have k0 : W.cell? ⟨w1.heap.size + 1, 0, none⟩ = some (.pointer (some ⟨a, 0, none⟩)) := by rw [cell_of_row _ _ _ _ _ _ r2]; rfl
  have k1 : W.cell? ⟨w1.heap.size + 1, 1, none⟩ = some (.int .i64 1) := by rw [cell_of_row _ _ _ _ _ _ r2]; rfl
  have k2 : W.cell? ⟨w1.heap.size + 1, 2, none⟩ = some (.func (.func 40) #[] #[]) := by rw [cell_of_row _ _ _ _ _ _ r2]; rfl
  have z0 : W.frozen? ⟨w.heap.size + 1, 0, none⟩ = false := frozen_of_row _ _ _ _ _ r0
  have z1 : W.frozen? ⟨w.heap.size + 1, 1, none⟩ = false := frozen_of_row _ _ _ _ _ r0
  have z2 : W.frozen? ⟨w.heap.size + 1, 2, none⟩ = false := frozen_of_row _ _ _ _ _ r0
  have z3 : W.frozen? ⟨w.heap.size + 1, 3, none⟩ = false := frozen_of_row _ _ _ _ _ r0
  have z4 : W.frozen? ⟨w.heap.size + 1, 4, none⟩ = false := frozen_of_row _ _ _ _ _ r0
  have z5 : W.frozen? ⟨w.heap.size + 1, 5, none⟩ = false := frozen_of_row _ _ _ _ _ r0
  have z6 : W.frozen? ⟨w.heap.size + 1, 6, none⟩ = false := frozen_of_row _ _ _ _ _ r0
  have y0 : W.cell? ⟨w.heap.size + 1, 0, none⟩ = some (.pointer none) := by rw [cell_of_row _ _ _ _ _ _ r0]; rfl
  have y1 : W.cell? ⟨w.heap.size + 1, 1, none⟩ = some (.int .i64 0) := by rw [cell_of_row _ _ _ _ _ _ r0]; rfl
  have y2 : W.cell? ⟨w.heap.size + 1, 2, none⟩ = some .nilFunc := by rw [cell_of_row _ _ _ _ _ _ r0]; rfl
  have y3 : W.cell? ⟨w.heap.size + 1, 3, none⟩ = some .nilFunc := by rw [cell_of_row _ _ _ _ _ _ r0]; rfl
  have y4 : W.cell? ⟨w.heap.size + 1, 4, none⟩ = some (.pointer none) := by rw [cell_of_row _ _ _ _ _ _ r0]; rfl
  have y5 : W.cell? ⟨w.heap.size + 1, 5, none⟩ = some (.int .i64 0) := by rw [cell_of_row _ _ _ _ _ _ r0]; rfl
  have y6 : W.cell? ⟨w.heap.size + 1, 6, none⟩ = some .nilFunc := by rw [cell_of_row _ _ _ _ _ _ r0]; rfl
  have HR0 := Lib.hid r0
  have HS := Lib.hid hs
  clear r0 r1 r2 rA mw rn hrow hcn mw1 mW hA hm hW HNW
  generalize w1.heap.size = g1 at *
  generalize hg2 : w.heap.size + 1 = g2 at *
  obtain ⟨W7, hW7⟩ : ∃ W7, W7 = set7 W g2 (.pointer (some ⟨a, 0, none⟩)) (.int .i64 0) (.func (.func 40) #[] #[]) (.func (.func 41) #[] #[.pointer (some ⟨g1, 0, none⟩), .pointer (some ⟨w.heap.size, 0, none⟩)]) (.pointer (some ⟨a, 0, none⟩)) (.int .i64 1) (.func (.func 40) #[] #[]) := ⟨_, rfl⟩
  have r7 : W7.heap[g2]? = some (.cells (bxf a g1 w.heap.size) 31 (0, 0)) := by
    rw [hW7]
    exact rows7 _ _ _ _ _ _ _ HR0.out
  have hw7 : Wrote (fun k => k = g2) W W7 := by
    rw [hW7]
    exact wrote7 _ _ _ _ _ _ _ _ _
  have hg2' : w.heap.size < g2 := by omega
  have HF : Hid (Arena W7 a b 0 (List.replicate (2 + 2 * n) 0) ∧ W7.cell? ⟨g1, 0, none⟩ = some (.pointer (some ⟨a, 0, none⟩)) ∧ W7.cell? ⟨w.heap.size, 0, none⟩ = some (.int .i64 (n : Int)) ∧ Made w W7) := by
    have hs := HS.out
    have hsW := MW.out.size
    have hlA := lt_of_at rA2.out.ha
    have hlB := lt_of_at rA2.out.hb
    have hl1 := lt_of_at R1.out
    have hln := lt_of_at RN.out
    have hoth : ∀ k : Nat, k < W.heap.size → k ≠ g2 → W7.heap[k]? = W.heap[k]? := fun k hk hn => hw7.block k hk hn
    refine ⟨arena_same rA2.out (hoth a hlA (by omega)) (hoth b hlB (by omega)), ?_, ?_, ⟨hw7.os.trans MW.out.os, hw7.tape.trans MW.out.tape, hw7.output.trans MW.out.output, Nat.le_trans hsW hw7.size, fun k hk => (hoth k (by omega) (by omega)).trans (MW.out.block k hk)⟩⟩
    · rw [cell_of_row _ _ _ _ _ _ ((hoth g1 hl1 (by omega)).trans R1.out)]
      rfl
    · rw [cell_of_row _ _ _ _ _ _ ((hoth w.heap.size hln (by omega)).trans RN.out)]
      rfl
  have HW7 := Lib.hid hW7
  have H7 := Lib.hid r7
  have HL := Lib.hid (show w.heap.size ≤ a ∧ w.heap.size ≤ b ∧ w.heap.size ≤ g1 ∧ g1 ≠ a ∧ g1 ≠ b ∧ w.heap.size ≠ a ∧ w.heap.size ≠ b by
    have hs := HS.out
    omega)
  clear hW7 r7 hw7 rA2 MW RN R1 HR0 hg2'
  have HZ := Lib.hid (show (Try.prog.info? 31).map (·.size) = some 7 by kernel_rfl)
  unfold set7 at HW7
  go_region
  rw [← HW7.out]
  clear q0 k0 k1 k2 z0 z1 z2 z3 z4 z5 z6 y0 y1 y2 y3 y4 y5 y6
  go_wp2_with fail
  refine bodyPost_ret (results_cell_tmp1 rfl _ _ g2 31 (bxf a g1 w.heap.size) (0, 0) _ ?hp ?hg Try.underlying31 rfl HZ.out) rfl ?_
  case hp => simp [Act.put]
  case hg => exact H7.out
  obtain ⟨l1, l2, l3, l4, l5, l6, l7⟩ := HL.out
  obtain ⟨f1, f2, f3, f4⟩ := HF.out
  exact ⟨a, b, g1, w.heap.size, rfl, f1.later (Made.drewN W7 1), l1, l2, l3, Nat.le_refl _, l4, l5, l6, l7, f2, f3, Made.trans f4 (Made.drewN W7 1)⟩
end Go.Proofs.Ytndpkonihcebeaa.Kod.Nine
