/- Package plan, walked: New, Config, Size. -/
import Derived.Test.YtnkcekgjppkbpaaPlan3
import Derived.RegionTactic
import Derived.ChangeAlike
import Derived.BigRegion
namespace Go.Proofs.Ytnkcekgjppkbpaa.Plan
open Go.RowKit Go.Proofs.Ytnkcekgjppkbpaa Go.Proofs.Ytnkcekgjppkbpaa.PlanN
set_option linter.unusedVariables false
set_option linter.unusedSimpArgs false

/-- A plan's row in memory. -/
def planRow (xs : List Int) : Array Value := ((xs ++ [slots xs, shard xs, nodes xs, tickets xs, conns xs]).map (Value.int .i64)).toArray
theorem heap_setCell_other (w : World) (g o k : Nat) (v : Value) (h : k ≠ g) : (w.setCell ⟨g, o, none⟩ v).heap[k]? = w.heap[k]? := by
  simp only [World.setCell, Array.getElem?_modify]
  rw [if_neg (fun e => h e.symm)]
/-- There is a plan at block p. -/
def IsPlan (w : World) (p : Nat) (xs : List Int) : Prop := w.heap[p]? = some (.cells (planRow xs) 91 (0, 0))

set_option maxRecDepth 100000 in
set_option maxHeartbeats 1000000 in
theorem New_no (xs : List Int) (h : xs.length = 13) (hc : ¬ (chk xs).2 = 0) (w : World) : Calls Try.prog 20 #[nums xs] w fun e w' => e = .returned (.tuple #[.pointer none, .int .i64 (chk xs).2]) ∧ Made w w' := by
  have HC := Lib.hid (Check_c xs h)
  have HZ := Lib.hid (show (Try.prog.info? 28).map (·.size) = some 13 by kernel_rfl)
  have HR : Hid ((xs.map (Value.int .i64)).toArray.size = 13) := by show _ = _; simp [h]
  unfold nums at HC ⊢
  generalize (xs.map (Value.int .i64)).toArray = R at HC HR ⊢
  generalize (chk xs).2 = k at HC hc ⊢
  generalize (chk xs).1 = at_ at HC
  go_enter Try.func20, Try.ntmps20
  go_wp2_with (first | (refine wpList_load_row rfl 28 (.tmp 1) rfl w.heap.size (by simp [Act.eval, Act.put]) 28 R (0, 0) _ (heap_alloc_new _ _) Try.underlying28 rfl (by rw [HR.out]; exact HZ.out) ?_))
  refine (HC.out _).mono ?_
  rintro e w1 ⟨rfl, hM⟩
  go_wp2_with fail
  go_ret2
  exact ⟨rfl, Made.trans ((Made.refl w).alloc (Nat.le_refl _) _) hM⟩

/-- A plan's row at p, and a configuration's row at the head of what the call made. -/
structure PW (w W : World) (p : Nat) (row cfg : Array Value) : Prop where
  hr : W.heap[p]? = some (.cells row 91 (0, 0))
  hc : W.heap[w.heap.size]? = some (.cells cfg 28 (0, 0))
  hp : w.heap.size < p
  md : Made w W
theorem PW.cfg {w W : World} {p : Nat} {row cfg : Array Value} (h : PW w W p row cfg) (j : Nat) : W.cell? ⟨w.heap.size, j, none⟩ = cfg[j]? := cell_of_row _ _ _ _ _ _ h.hc
theorem PW.row {w W : World} {p : Nat} {row cfg : Array Value} (h : PW w W p row cfg) (j : Nat) : W.cell? ⟨p, j, none⟩ = row[j]? := cell_of_row _ _ _ _ _ _ h.hr
theorem PW.free {w W : World} {p : Nat} {row cfg : Array Value} (h : PW w W p row cfg) (j : Nat) : W.frozen? ⟨p, j, none⟩ = false := frozen_of_row _ _ _ _ _ h.hr
theorem PW.start {w w1 : World} {row cfg : Array Value} (hB : Made w w1) (hc : w1.heap[w.heap.size]? = some (.cells cfg 28 (0, 0))) (hlt : w.heap.size < w1.heap.size) :
    PW w (w1.alloc (.cells row 91)).drew w1.heap.size row cfg :=
  ⟨heap_alloc_new w1 _, (show (w1.alloc _).heap[_]? = _ from (heap_alloc_old w1 _ hlt).trans hc), hlt, below_drewN (hB.alloc (by omega) _) 1⟩
theorem PW.set {w W : World} {p : Nat} {row cfg : Array Value} (h : PW w W p row cfg) (j : Nat) (v : Value) : PW w (W.setCell ⟨p, j, none⟩ v).drew p (row.setIfInBounds j v) cfg :=
  ⟨by show (W.setCell _ _).heap[p]? = _; rw [setCell_eq_setRow _ _ _ _ _ _ _ h.hr, heap_setRow_same _ _ _ _ _ _ h.hr], by show (W.setCell _ _).heap[_]? = _; rw [heap_setCell_other _ _ _ _ _ (by have := h.hp; omega)]; exact h.hc, h.hp, below_drewN (h.md.setCell (by have := h.hp; simp; omega) _) 1⟩
theorem shl_run (b : Int) (h1 : 1 ≤ b) (h2 : b ≤ 6) {s : Int} (hs : s = 2 ^ b.toNat) (w : World) : (Op.shift .shl .i64 1 .i64 b).run Try.prog w = .ok (.int .i64 s) w := by
  have : b = 1 ∨ b = 2 ∨ b = 3 ∨ b = 4 ∨ b = 5 ∨ b = 6 := by omega
  rcases this with rfl | rfl | rfl | rfl | rfl | rfl <;> subst hs <;> rfl
theorem chk_zero {xs : List Int} (h : Rgt xs) : (chk xs).1 = 0 ∧ (chk xs).2 = 0 := by rw [chk_right h]; exact ⟨rfl, rfl⟩

set_option maxRecDepth 100000 in
set_option maxHeartbeats 2000000 in
theorem New_yes (xs : List Int) (h : xs.length = 13) (hc : Rgt xs) (w : World) : Calls Try.prog 20 #[nums xs] w fun e w' => ∃ p, e = .returned (.tuple #[.pointer (some ⟨p, 0, none⟩), .int .i64 0]) ∧ IsPlan w' p xs ∧ w.heap.size ≤ p ∧ Made w w' := by
  have HC := Lib.hid (Check_c xs h)
  rw [(chk_zero hc).1, (chk_zero hc).2] at HC
  have HG := rng hc
  obtain ⟨a0, a1, a2, a3, a4, a5, a6, a7, a8, a9, a10, a11, a12, rfl⟩ := thirteen xs h
  have e1 : shard [a0, a1, a2, a3, a4, a5, a6, a7, a8, a9, a10, a11, a12] = 3 + a1 * (1 + slots [a0, a1, a2, a3, a4, a5, a6, a7, a8, a9, a10, a11, a12]) := rfl
  have e2 : nodes [a0, a1, a2, a3, a4, a5, a6, a7, a8, a9, a10, a11, a12] = 3 + a0 * shard [a0, a1, a2, a3, a4, a5, a6, a7, a8, a9, a10, a11, a12] := rfl
  have e3 : tickets [a0, a1, a2, a3, a4, a5, a6, a7, a8, a9, a10, a11, a12] = nodes [a0, a1, a2, a3, a4, a5, a6, a7, a8, a9, a10, a11, a12] + 4 * a3 := rfl
  have e4 : conns [a0, a1, a2, a3, a4, a5, a6, a7, a8, a9, a10, a11, a12] = tickets [a0, a1, a2, a3, a4, a5, a6, a7, a8, a9, a10, a11, a12] + 3 * a4 := rfl
  have e0 : slots [a0, a1, a2, a3, a4, a5, a6, a7, a8, a9, a10, a11, a12] = 2 ^ a2.toNat := rfl
  have HPL : Hid (planRow [a0, a1, a2, a3, a4, a5, a6, a7, a8, a9, a10, a11, a12] = #[.int .i64 a0, .int .i64 a1, .int .i64 a2, .int .i64 a3, .int .i64 a4, .int .i64 a5, .int .i64 a6, .int .i64 a7, .int .i64 a8, .int .i64 a9, .int .i64 a10, .int .i64 a11, .int .i64 a12, .int .i64 (slots [a0, a1, a2, a3, a4, a5, a6, a7, a8, a9, a10, a11, a12]), .int .i64 (shard [a0, a1, a2, a3, a4, a5, a6, a7, a8, a9, a10, a11, a12]), .int .i64 (nodes [a0, a1, a2, a3, a4, a5, a6, a7, a8, a9, a10, a11, a12]), .int .i64 (tickets [a0, a1, a2, a3, a4, a5, a6, a7, a8, a9, a10, a11, a12]), .int .i64 (conns [a0, a1, a2, a3, a4, a5, a6, a7, a8, a9, a10, a11, a12])]) := rfl
  have en : nums [a0, a1, a2, a3, a4, a5, a6, a7, a8, a9, a10, a11, a12] = .agg #[.int .i64 a0, .int .i64 a1, .int .i64 a2, .int .i64 a3, .int .i64 a4, .int .i64 a5, .int .i64 a6, .int .i64 a7, .int .i64 a8, .int .i64 a9, .int .i64 a10, .int .i64 a11, .int .i64 a12] := rfl
  rw [en] at HC ⊢
  have hs2 := HG.s
  have hsh2 := HG.sh
  have hnd2 := HG.nd
  have htk2 := HG.tk
  have hcn2 := HG.cn
  have hb2 := HG.b
  have HB2 := Lib.hid hb2
  have hsl : ∀ w : World, (Op.shift .shl .i64 1 .i64 a2).run Try.prog w = .ok (.int .i64 (slots [a0, a1, a2, a3, a4, a5, a6, a7, a8, a9, a10, a11, a12])) w := shl_run a2 hb2.1 hb2.2 e0
  clear en hb2
  generalize conns [a0, a1, a2, a3, a4, a5, a6, a7, a8, a9, a10, a11, a12] = s5 at *
  generalize tickets [a0, a1, a2, a3, a4, a5, a6, a7, a8, a9, a10, a11, a12] = s4 at *
  generalize nodes [a0, a1, a2, a3, a4, a5, a6, a7, a8, a9, a10, a11, a12] = s3 at *
  generalize shard [a0, a1, a2, a3, a4, a5, a6, a7, a8, a9, a10, a11, a12] = s2 at *
  generalize slots [a0, a1, a2, a3, a4, a5, a6, a7, a8, a9, a10, a11, a12] = s1 at *
  have b3 : 1 ≤ a3 ∧ a3 ≤ 4096 := HG.n
  have b4 : 1 ≤ a4 ∧ a4 ≤ 8192 := HG.t
  have Q00 : Hid (IntKind.i64.wrap (1 + s1) = 1 + s1) := by show _ = _; rw [IntWalk.i64_in _ (by omega)]
  have Q01 : Hid (IntKind.i64.wrap (a1 * (1 + s1)) = a1 * (1 + s1)) := by show _ = _; rw [IntWalk.i64_in _ (by omega)]
  have Q02 : Hid (IntKind.i64.wrap (3 + a1 * (1 + s1)) = s2) := by show _ = _; rw [IntWalk.i64_in _ (by omega)]; omega
  have Q10 : Hid (IntKind.i64.wrap (a0 * s2) = a0 * s2) := by show _ = _; rw [IntWalk.i64_in _ (by omega)]
  have Q11 : Hid (IntKind.i64.wrap (3 + a0 * s2) = s3) := by show _ = _; rw [IntWalk.i64_in _ (by omega)]; omega
  have Q20 : Hid (IntKind.i64.wrap (4 * a3) = 4 * a3) := by show _ = _; rw [IntWalk.i64_in _ (by omega)]
  have Q21 : Hid (IntKind.i64.wrap (s3 + 4 * a3) = s4) := by show _ = _; rw [IntWalk.i64_in _ (by omega)]; omega
  have Q30 : Hid (IntKind.i64.wrap (3 * a4) = 3 * a4) := by show _ = _; rw [IntWalk.i64_in _ (by omega)]
  have Q31 : Hid (IntKind.i64.wrap (s4 + 3 * a4) = s5) := by show _ = _; rw [IntWalk.i64_in _ (by omega)]; omega
  have E1 := Lib.hid e1
  have E2 := Lib.hid e2
  have E3 := Lib.hid e3
  have E4 := Lib.hid e4
  clear e0 e1 e2 e3 e4
  go_enter Try.func20, Try.ntmps20
  go_wp2_with fail
  refine (HC.out _).mono ?_
  rintro e w1 ⟨rfl, hM⟩
  have H0 : w1.heap[w.heap.size]? = some (.cells #[.int .i64 a0, .int .i64 a1, .int .i64 a2, .int .i64 a3, .int .i64 a4, .int .i64 a5, .int .i64 a6, .int .i64 a7, .int .i64 a8, .int .i64 a9, .int .i64 a10, .int .i64 a11, .int .i64 a12] 28 (0, 0)) := (hM.block _ (by simp)).trans (heap_alloc_new _ _)
  have c0 : w1.cell? ⟨w.heap.size, 0, none⟩ = some (.int .i64 a0) := cell_of_row _ _ _ _ _ _ H0
  have c1 : w1.cell? ⟨w.heap.size, 1, none⟩ = some (.int .i64 a1) := cell_of_row _ _ _ _ _ _ H0
  have c2 : w1.cell? ⟨w.heap.size, 2, none⟩ = some (.int .i64 a2) := cell_of_row _ _ _ _ _ _ H0
  have c3 : w1.cell? ⟨w.heap.size, 3, none⟩ = some (.int .i64 a3) := cell_of_row _ _ _ _ _ _ H0
  have c4 : w1.cell? ⟨w.heap.size, 4, none⟩ = some (.int .i64 a4) := cell_of_row _ _ _ _ _ _ H0
  have c5 : w1.cell? ⟨w.heap.size, 5, none⟩ = some (.int .i64 a5) := cell_of_row _ _ _ _ _ _ H0
  have c6 : w1.cell? ⟨w.heap.size, 6, none⟩ = some (.int .i64 a6) := cell_of_row _ _ _ _ _ _ H0
  have c7 : w1.cell? ⟨w.heap.size, 7, none⟩ = some (.int .i64 a7) := cell_of_row _ _ _ _ _ _ H0
  have c8 : w1.cell? ⟨w.heap.size, 8, none⟩ = some (.int .i64 a8) := cell_of_row _ _ _ _ _ _ H0
  have c9 : w1.cell? ⟨w.heap.size, 9, none⟩ = some (.int .i64 a9) := cell_of_row _ _ _ _ _ _ H0
  have c10 : w1.cell? ⟨w.heap.size, 10, none⟩ = some (.int .i64 a10) := cell_of_row _ _ _ _ _ _ H0
  have c11 : w1.cell? ⟨w.heap.size, 11, none⟩ = some (.int .i64 a11) := cell_of_row _ _ _ _ _ _ H0
  have c12 : w1.cell? ⟨w.heap.size, 12, none⟩ = some (.int .i64 a12) := cell_of_row _ _ _ _ _ _ H0
  have H0' := Lib.hid H0
  clear H0
  have hlt : w.heap.size < w1.heap.size := by have := hM.size; simp at this; omega
  have hB : Made w w1 := Made.trans ((Made.refl w).alloc (Nat.le_refl _) _) hM
  clear hM
  go_wp2_with fail
  go_region
  have hp0 : PW w (w1.alloc (.cells #[.int .i64 a0, .int .i64 a1, .int .i64 a2, .int .i64 a3, .int .i64 a4, .int .i64 a5, .int .i64 a6, .int .i64 a7, .int .i64 a8, .int .i64 a9, .int .i64 a10, .int .i64 a11, .int .i64 a12, .int .i64 s1, .int .i64 0, .int .i64 0, .int .i64 0, .int .i64 0] 91)).drew w1.heap.size #[.int .i64 a0, .int .i64 a1, .int .i64 a2, .int .i64 a3, .int .i64 a4, .int .i64 a5, .int .i64 a6, .int .i64 a7, .int .i64 a8, .int .i64 a9, .int .i64 a10, .int .i64 a11, .int .i64 a12, .int .i64 s1, .int .i64 0, .int .i64 0, .int .i64 0, .int .i64 0] #[.int .i64 a0, .int .i64 a1, .int .i64 a2, .int .i64 a3, .int .i64 a4, .int .i64 a5, .int .i64 a6, .int .i64 a7, .int .i64 a8, .int .i64 a9, .int .i64 a10, .int .i64 a11, .int .i64 a12] := PW.start hB H0'.out hlt
  generalize (w1.alloc (.cells #[.int .i64 a0, .int .i64 a1, .int .i64 a2, .int .i64 a3, .int .i64 a4, .int .i64 a5, .int .i64 a6, .int .i64 a7, .int .i64 a8, .int .i64 a9, .int .i64 a10, .int .i64 a11, .int .i64 a12, .int .i64 s1, .int .i64 0, .int .i64 0, .int .i64 0, .int .i64 0] 91)).drew = w2 at hp0 ⊢
  generalize w1.heap.size = p at hp0 hlt ⊢
  clear c0 c1 c2 c3 c4 c5 c6 c7 c8 c9 c10 c11 c12 H0' hB hlt
  have d1 := hp0.cfg 1
  have d2 := hp0.row 13
  have d3 := hp0.row 14
  have z3 := hp0.free 14
  simp only [List.getElem?_toArray, List.getElem?_cons_succ, List.getElem?_cons_zero] at d1 d2 d3
  have HP := Lib.hid hp0
  clear hp0
  have q0 := Q00.out
  have q1 := Q01.out
  have q2 := Q02.out
  go_wp2_with fail
  go_region
  clear q0 q1 q2 d1 d2 d3 z3
  have hp1 : PW w (w2.setCell ⟨p, 14, none⟩ (.int .i64 s2)).drew p #[.int .i64 a0, .int .i64 a1, .int .i64 a2, .int .i64 a3, .int .i64 a4, .int .i64 a5, .int .i64 a6, .int .i64 a7, .int .i64 a8, .int .i64 a9, .int .i64 a10, .int .i64 a11, .int .i64 a12, .int .i64 s1, .int .i64 s2, .int .i64 0, .int .i64 0, .int .i64 0] #[.int .i64 a0, .int .i64 a1, .int .i64 a2, .int .i64 a3, .int .i64 a4, .int .i64 a5, .int .i64 a6, .int .i64 a7, .int .i64 a8, .int .i64 a9, .int .i64 a10, .int .i64 a11, .int .i64 a12] := HP.out.set 14 _
  clear HP
  generalize (w2.setCell ⟨p, 14, none⟩ (.int .i64 s2)).drew = w3 at hp1 ⊢
  have d1 := hp1.cfg 0
  have d2 := hp1.row 14
  have d3 := hp1.row 15
  have z3 := hp1.free 15
  simp only [List.getElem?_toArray, List.getElem?_cons_succ, List.getElem?_cons_zero] at d1 d2 d3
  have HP := Lib.hid hp1
  clear hp1
  have q0 := Q10.out
  have q1 := Q11.out
  go_wp2_with fail
  go_region
  clear q0 q1 d1 d2 d3 z3
  have hp2 : PW w (w3.setCell ⟨p, 15, none⟩ (.int .i64 s3)).drew p #[.int .i64 a0, .int .i64 a1, .int .i64 a2, .int .i64 a3, .int .i64 a4, .int .i64 a5, .int .i64 a6, .int .i64 a7, .int .i64 a8, .int .i64 a9, .int .i64 a10, .int .i64 a11, .int .i64 a12, .int .i64 s1, .int .i64 s2, .int .i64 s3, .int .i64 0, .int .i64 0] #[.int .i64 a0, .int .i64 a1, .int .i64 a2, .int .i64 a3, .int .i64 a4, .int .i64 a5, .int .i64 a6, .int .i64 a7, .int .i64 a8, .int .i64 a9, .int .i64 a10, .int .i64 a11, .int .i64 a12] := HP.out.set 15 _
  clear HP
  generalize (w3.setCell ⟨p, 15, none⟩ (.int .i64 s3)).drew = w4 at hp2 ⊢
  have d1 := hp2.cfg 3
  have d2 := hp2.row 15
  have d3 := hp2.row 16
  have z3 := hp2.free 16
  simp only [List.getElem?_toArray, List.getElem?_cons_succ, List.getElem?_cons_zero] at d1 d2 d3
  have HP := Lib.hid hp2
  clear hp2
  have q0 := Q20.out
  have q1 := Q21.out
  go_wp2_with fail
  go_region
  clear q0 q1 d1 d2 d3 z3
  have hp3 : PW w (w4.setCell ⟨p, 16, none⟩ (.int .i64 s4)).drew p #[.int .i64 a0, .int .i64 a1, .int .i64 a2, .int .i64 a3, .int .i64 a4, .int .i64 a5, .int .i64 a6, .int .i64 a7, .int .i64 a8, .int .i64 a9, .int .i64 a10, .int .i64 a11, .int .i64 a12, .int .i64 s1, .int .i64 s2, .int .i64 s3, .int .i64 s4, .int .i64 0] #[.int .i64 a0, .int .i64 a1, .int .i64 a2, .int .i64 a3, .int .i64 a4, .int .i64 a5, .int .i64 a6, .int .i64 a7, .int .i64 a8, .int .i64 a9, .int .i64 a10, .int .i64 a11, .int .i64 a12] := HP.out.set 16 _
  clear HP
  generalize (w4.setCell ⟨p, 16, none⟩ (.int .i64 s4)).drew = w5 at hp3 ⊢
  have d1 := hp3.cfg 4
  have d2 := hp3.row 16
  have d3 := hp3.row 17
  have z3 := hp3.free 17
  simp only [List.getElem?_toArray, List.getElem?_cons_succ, List.getElem?_cons_zero] at d1 d2 d3
  have HP := Lib.hid hp3
  clear hp3
  have q0 := Q30.out
  have q1 := Q31.out
  go_wp2_with fail
  go_region
  clear q0 q1 d1 d2 d3 z3
  have hp4 : PW w (w5.setCell ⟨p, 17, none⟩ (.int .i64 s5)).drew p #[.int .i64 a0, .int .i64 a1, .int .i64 a2, .int .i64 a3, .int .i64 a4, .int .i64 a5, .int .i64 a6, .int .i64 a7, .int .i64 a8, .int .i64 a9, .int .i64 a10, .int .i64 a11, .int .i64 a12, .int .i64 s1, .int .i64 s2, .int .i64 s3, .int .i64 s4, .int .i64 s5] #[.int .i64 a0, .int .i64 a1, .int .i64 a2, .int .i64 a3, .int .i64 a4, .int .i64 a5, .int .i64 a6, .int .i64 a7, .int .i64 a8, .int .i64 a9, .int .i64 a10, .int .i64 a11, .int .i64 a12] := HP.out.set 17 _
  clear HP
  generalize (w5.setCell ⟨p, 17, none⟩ (.int .i64 s5)).drew = w6 at hp4 ⊢
  have HP := Lib.hid hp4
  clear hp4
  go_wp2_with fail
  go_ret2
  refine ⟨p, rfl, ?_, Nat.le_of_lt HP.out.hp, HP.out.md⟩
  unfold IsPlan
  rw [HPL.out]
  exact HP.out.hr
end Go.Proofs.Ytnkcekgjppkbpaa.Plan
