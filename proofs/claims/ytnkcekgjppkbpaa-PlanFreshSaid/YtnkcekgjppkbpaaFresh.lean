/- Package plan, walked: Fresh. -/
import Derived.Test.YtnkcekgjppkbpaaPlan7
import Derived.Test.YtnkcekgjppkbpaaCell3
import Derived.Test.YtnkcekgjppkbpaaWords
import Derived.Deep.RegionHeld3
namespace Go.Proofs.Ytnkcekgjppkbpaa.Fresh
open Go.RowKit Go.Proofs.Ytnkcekgjppkbpaa Go.Proofs.Ytnkcekgjppkbpaa.Cell Go.Proofs.Ytnkcekgjppkbpaa.Wd
set_option linter.unusedVariables false
set_option linter.unusedSimpArgs false

theorem head00 : headPacked 0 0 = (1, 0) := by decide
theorem i64_zero : I64 0 := by unfold I64; omega
theorem HeadWord0 (w : World) : Calls Try.prog 78 #[.agg #[.int .i64 0, .int .i64 0]] w fun e w' => e = .returned (.tuple #[.int .u64 1, .int .i64 0]) ∧ Made w w' := by
  have := HeadWord_c 0 0 i64_zero i64_zero w
  rw [head00] at this
  exact this
/-- A row of words at block g, a box that holds its slice at block bx. -/
structure Arr (w : World) (bx g : Nat) (zs : List Int) : Prop where
  box : w.heap[bx]? = some (.cells #[.slice (some ⟨g, 0, none⟩) zs.length zs.length] 44 (0, 0))
  row : w.heap[g]? = some (.cells (row zs) 43 (0, 0))
  ne : bx ≠ g
theorem Arr.later {w w' : World} {bx g : Nat} {zs : List Int} (h : Arr w bx g zs) (m : Made w w') : Arr w' bx g zs :=
  ⟨(m.block _ (Array.getElem?_eq_some_iff.1 h.box).1).trans h.box, (m.block _ (Array.getElem?_eq_some_iff.1 h.row).1).trans h.row, h.ne⟩
theorem Arr.put {w : World} {bx g : Nat} {zs : List Int} (h : Arr w bx g zs) (i : Nat) (v : Int) : Arr (w.setCell ⟨g, i, none⟩ (.int .u64 v)) bx g (zs.set i v) :=
  ⟨by rw [Cell.heap_setCell_other _ _ _ _ _ h.ne, List.length_set]; exact h.box, by rw [setCell_eq_setRow _ _ _ _ _ _ _ h.row, heap_setRow_same _ _ _ _ _ _ h.row, row_put], h.ne⟩
/-- The links laid one by one. -/
def chain (ys : List Int) (loc : Nat → Nat) : Nat → List Int
  | 0 => ys
  | 1 => ys
  | k + 2 => (chain ys loc (k + 1)).set (loc k) ((k : Int) + 2)
theorem chain_len (ys : List Int) (loc : Nat → Nat) : ∀ k, (chain ys loc k).length = ys.length
  | 0 => rfl
  | 1 => rfl
  | k + 2 => by rw [chain, List.length_set]; exact chain_len ys loc (k + 1)

theorem chain_succ (ys : List Int) (loc : Nat → Nat) {k : Nat} (h : 1 ≤ k) : chain ys loc (k + 1) = (chain ys loc k).set (loc (k - 1)) ((k : Int) + 1) := by
  obtain ⟨j, rfl⟩ : ∃ j, k = j + 1 := ⟨k - 1, by omega⟩
  rw [chain, Nat.add_sub_cancel]
  congr 1
/-- Nothing that was there has turned, but block g. -/
structure But (g : Nat) (w w' : World) : Prop where
  os : w'.os = w.os
  tape : w'.tape = w.tape
  output : w'.output = w.output
  size : w.heap.size ≤ w'.heap.size
  block : ∀ k, k < w.heap.size → k ≠ g → w'.heap[k]? = w.heap[k]?
theorem But.of_made {g : Nat} {w w' : World} (h : Made w w') : But g w w' := ⟨h.os, h.tape, h.output, h.size, fun k hk _ => h.block k hk⟩
theorem But.trans {g : Nat} {u v w : World} (h : But g u v) (k : But g v w) : But g u w :=
  ⟨k.os.trans h.os, k.tape.trans h.tape, k.output.trans h.output, Nat.le_trans h.size k.size, fun j hj hne => (k.block j (Nat.lt_of_lt_of_le hj h.size) hne).trans (h.block j hj hne)⟩
theorem But.set {g : Nat} {w w' : World} (h : But g w w') (o : Nat) (v : Value) : But g w (w'.setCell ⟨g, o, none⟩ v) :=
  h.trans ⟨rfl, rfl, rfl, by simp [World.setCell], fun k _ hne => Cell.heap_setCell_other _ _ _ _ _ hne⟩
theorem But.at {g b : Nat} {w w' : World} {o : Obj} (h : But g w w') (hne : b ≠ g) (e : w.heap[b]? = some o) : w'.heap[b]? = some o := (h.block b (Array.getElem?_eq_some_iff.1 e).1 hne).trans e

set_option maxRecDepth 100000 in
set_option maxHeartbeats 2000000 in
theorem link_c (p : Nat) (zs : List Int) (bx g a N Z : Nat) (hZ : Hid (Z = zs.length)) (ha : a < Z) (hN : 1 ≤ N) (hZ2 : Z ≤ 1000000) (hN2 : N ≤ 1000000) (w : World) (hA : Hid (Arr w bx g zs)) (loc : Nat → Nat) (hloc : Hid (∀ j, j + 1 < N → loc j < Z))
    (HLK : Hid (∀ (k : Nat) (w' : World), 1 ≤ k → k < N → But g w w' → Calls Try.prog 46 #[.pointer (some ⟨p, 0, none⟩), .int .i64 ((k : Int) - 1)] w' fun e w'' => e = .returned (.int .i64 (loc (k - 1) : Int)) ∧ Made w' w'')) :
    Calls Try.prog 77 #[.int .i64 (a : Int), .int .i64 (N : Int), .func (.func 46) #[.pointer (some ⟨p, 0, none⟩)] #[], .pointer (some ⟨bx, 0, none⟩)] w fun e w' => (∃ r, e = .returned r) ∧ Arr w' bx g (chain (zs.set a 1) loc N) ∧ But g w w' := by
  have hl : a < zs.length := by have := hZ.out; omega
  have cb : w.cell? ⟨bx, 0, none⟩ = some (.slice (some ⟨g, 0, none⟩) Z Z) := by rw [hZ.out, cell_of_row _ _ _ _ _ _ hA.out.box]; rfl
  have cz : w.cell? ⟨g, a, none⟩ = some (.int .u64 zs[a]) := by rw [cell_of_row _ _ _ _ _ _ hA.out.row]; exact row_at' hl
  have fz : w.frozen? ⟨g, a, none⟩ = false := frozen_of_row _ _ _ _ _ hA.out.row
  generalize zs[a] = was at cz
  have HKp : Hid (∀ w' : World, But g w w' → w'.cell? ⟨bx, 0, none⟩ = some (.slice (some ⟨g, 0, none⟩) Z Z) ∧ But g w w') := fun w' m =>
    ⟨by rw [cell_of_row _ _ _ _ _ _ (m.at hA.out.ne hA.out.box), hZ.out]; rfl, m⟩
  have hMd0 : But g w w.drew := But.of_made (Made.drewN w 1)
  have HM0 : Hid (∀ w3 : World, Made w.drew w3 → But g w w3 ∧ But g w (w3.setCell ⟨g, a, none⟩ (.int .u64 1)) ∧ w3.cell? ⟨g, a, none⟩ = some (.int .u64 was) ∧ w3.frozen? ⟨g, a, none⟩ = false ∧ Arr (w3.setCell ⟨g, a, none⟩ (.int .u64 1)) bx g (zs.set a 1)) := fun w3 m => by
    have m' := Made.trans (Made.drewN w 1) m
    have b3 : But g w w3 := But.of_made m'
    exact ⟨b3, b3.set _ _, (m'.cell (Array.getElem?_eq_some_iff.1 hA.out.row).1).trans cz, frozen_of_row _ _ _ _ _ (hA.out.later m').row, (hA.out.later m').put a 1⟩
  clear cz fz
  have a1 : (a : Int) < (Z : Int) := by omega
  go_enter Try.func77, Try.ntmps77
  go_wp2_with fail
  go_region_held3 (fun w' => w'.cell? ⟨bx, 0, none⟩ = some (.slice (some ⟨g, 0, none⟩) Z Z) ∧ But g w w') (exact HKp.out _ (by assumption)) (first | (go_at_call 78; refine (HeadWord0 _).mono ?_; rintro e w3 ⟨rfl, hM3⟩; obtain ⟨hb3, hb4, c3, z3, hA4⟩ := HM0.out w3 hM3))
  have HA4 : Hid (Arr (w3.setCell ⟨g, a, none⟩ (.int .u64 1)) bx g (chain (zs.set a 1) loc 1)) := hA4
  have hlenc : Hid (∀ k, (chain (zs.set a 1) loc k).length = Z) := fun k => by rw [chain_len, List.length_set, hZ.out]
  clear hM3 hb3 c3 z3 hA4 HM0 HKp hMd0 cb
  generalize w3.setCell ⟨g, a, none⟩ (.int .u64 1) = w4 at *
  go_wp2_with fail
  go_loopw [7] (fun i wr => ∃ k : Nat, 1 ≤ k ∧ k ≤ N ∧ i = .int .i64 k ∧ Hid (Arr wr bx g (chain (zs.set a 1) loc k)) ∧ But g w wr) (fun i _ => (N - intOf i).toNat)
  case atStart => exact ⟨1, by omega, hN, rfl, HA4, hb4⟩
  case round =>
    obtain ⟨k, hk1, hk, rfl, HAr, hbr⟩ := hrel
    by_cases hkN : k < N
    · obtain ⟨ys, hys⟩ : ∃ ys, ys = chain (zs.set a 1) loc k := ⟨_, rfl⟩
      have hyl : ys.length = Z := by rw [hys]; exact hlenc.out k
      have hnext : Hid (ys.set (loc (k - 1)) (IntKind.u64.wrap (IntKind.i64.wrap ((k : Int) + 1))) = chain (zs.set a 1) loc (k + 1)) := by show _ = _; rw [chain_succ _ _ hk1, hys, show IntKind.u64.wrap (IntKind.i64.wrap ((k : Int) + 1)) = (k : Int) + 1 by rw [IntKind.wrap_i64, IntKind.wrap_u64]; omega]
      rw [← hys] at HAr
      have hp := hloc.out (k - 1) (by omega)
      have HL1 : Hid (∀ w3 : World, But g wr w3 → Calls Try.prog 46 #[.pointer (some ⟨p, 0, none⟩), .int .i64 ((k : Int) - 1)] w3 fun e w'' => e = .returned (.int .i64 (loc (k - 1) : Int)) ∧ Made w3 w'') := fun w3 b => HLK.out k w3 hk1 hkN (hbr.trans b)
      generalize loc (k - 1) = q at hnext hp HL1
      have hql : q < ys.length := by omega
      have HKp : Hid (∀ w' : World, But g wr w' → w'.cell? ⟨bx, 0, none⟩ = some (.slice (some ⟨g, 0, none⟩) Z Z) ∧ But g wr w') := fun w' m =>
        ⟨by rw [cell_of_row _ _ _ _ _ _ (m.at HAr.out.ne HAr.out.box), hyl]; rfl, m⟩
      have hMd0 : But g wr wr.drew := But.of_made (Made.drewN wr 1)
      obtain ⟨was, hwas⟩ : ∃ v, v = ys[q] := ⟨_, rfl⟩
      have HM0 : Hid (∀ w3 : World, Made wr.drew w3 → But g wr w3 ∧ But g wr (w3.setCell ⟨g, q, none⟩ (.int .u64 (IntKind.u64.wrap (IntKind.i64.wrap ((k : Int) + 1))))) ∧ w3.cell? ⟨g, q, none⟩ = some (.int .u64 was) ∧ w3.frozen? ⟨g, q, none⟩ = false ∧ Arr (w3.setCell ⟨g, q, none⟩ (.int .u64 (IntKind.u64.wrap (IntKind.i64.wrap ((k : Int) + 1))))) bx g (ys.set q (IntKind.u64.wrap (IntKind.i64.wrap ((k : Int) + 1))))) := fun w3 m => by
        have m' := Made.trans (Made.drewN wr 1) m
        have b3 : But g wr w3 := But.of_made m'
        exact ⟨b3, b3.set _ _, (m'.cell (Array.getElem?_eq_some_iff.1 HAr.out.row).1).trans (by rw [cell_of_row _ _ _ _ _ _ HAr.out.row, hwas]; exact row_at' hql), frozen_of_row _ _ _ _ _ (HAr.out.later m').row, (HAr.out.later m').put q _⟩
      clear hwas hys hyl
      have HVV : Hid (IntKind.u64.wrap (IntKind.i64.wrap ((k : Int) + 1)) = (k : Int) + 1) := by show _ = _; rw [IntKind.wrap_i64, IntKind.wrap_u64]; omega
      have HWR : Hid (IntKind.i64.wrap ((k : Int) - 1) = (k : Int) - 1) := by show _ = _; rw [IntKind.wrap_i64]; omega
      have q1 : (q : Int) < (Z : Int) := by omega
      have kk : (k : Int) < (N : Int) := by omega
      go_wp2_with fail
      go_region_held3 (fun w' => w'.cell? ⟨bx, 0, none⟩ = some (.slice (some ⟨g, 0, none⟩) Z Z) ∧ But g wr w') (exact HKp.out _ (by assumption)) (first | (go_at_call 46; rw [HWR.out]; refine (HL1.out _ hMd0).mono ?_; rintro e w3 ⟨rfl, hM3⟩; obtain ⟨hb3, hb5, c3, z3, hA5⟩ := HM0.out w3 hM3))
      rw [HVV.out] at hb5 hA5
      go_wp2_with fail
      go_roundw
      case rel => exact ⟨k + 1, by omega, by omega, by go_num, by show Arr _ _ _ _; have h := hnext.out; rw [HVV.out] at h; rw [← h]; exact hA5, hbr.trans hb5⟩
      case measure => simp [intOf]; omega
    · obtain rfl : N = k := by omega
      go_wp2_with fail
      go_end0
      exact ⟨⟨_, rfl⟩, HAr.out, hbr⟩
set_option maxRecDepth 100000 in
set_option maxHeartbeats 2000000 in
theorem link_t (p : Nat) (zs : List Int) (bx g a N Z : Nat) (hZ : Hid (Z = zs.length)) (ha : a < Z) (hN : 1 ≤ N) (hZ2 : Z ≤ 1000000) (hN2 : N ≤ 1000000) (w : World) (hA : Hid (Arr w bx g zs)) (loc : Nat → Nat) (hloc : Hid (∀ j, j + 1 < N → loc j < Z))
    (HLK : Hid (∀ (k : Nat) (w' : World), 1 ≤ k → k < N → But g w w' → Calls Try.prog 49 #[.pointer (some ⟨p, 0, none⟩), .int .i64 ((k : Int) - 1)] w' fun e w'' => e = .returned (.int .i64 (loc (k - 1) : Int)) ∧ Made w' w'')) :
    Calls Try.prog 77 #[.int .i64 (a : Int), .int .i64 (N : Int), .func (.func 49) #[.pointer (some ⟨p, 0, none⟩)] #[], .pointer (some ⟨bx, 0, none⟩)] w fun e w' => (∃ r, e = .returned r) ∧ Arr w' bx g (chain (zs.set a 1) loc N) ∧ But g w w' := by
  have hl : a < zs.length := by have := hZ.out; omega
  have cb : w.cell? ⟨bx, 0, none⟩ = some (.slice (some ⟨g, 0, none⟩) Z Z) := by rw [hZ.out, cell_of_row _ _ _ _ _ _ hA.out.box]; rfl
  have cz : w.cell? ⟨g, a, none⟩ = some (.int .u64 zs[a]) := by rw [cell_of_row _ _ _ _ _ _ hA.out.row]; exact row_at' hl
  have fz : w.frozen? ⟨g, a, none⟩ = false := frozen_of_row _ _ _ _ _ hA.out.row
  generalize zs[a] = was at cz
  have HKp : Hid (∀ w' : World, But g w w' → w'.cell? ⟨bx, 0, none⟩ = some (.slice (some ⟨g, 0, none⟩) Z Z) ∧ But g w w') := fun w' m =>
    ⟨by rw [cell_of_row _ _ _ _ _ _ (m.at hA.out.ne hA.out.box), hZ.out]; rfl, m⟩
  have hMd0 : But g w w.drew := But.of_made (Made.drewN w 1)
  have HM0 : Hid (∀ w3 : World, Made w.drew w3 → But g w w3 ∧ But g w (w3.setCell ⟨g, a, none⟩ (.int .u64 1)) ∧ w3.cell? ⟨g, a, none⟩ = some (.int .u64 was) ∧ w3.frozen? ⟨g, a, none⟩ = false ∧ Arr (w3.setCell ⟨g, a, none⟩ (.int .u64 1)) bx g (zs.set a 1)) := fun w3 m => by
    have m' := Made.trans (Made.drewN w 1) m
    have b3 : But g w w3 := But.of_made m'
    exact ⟨b3, b3.set _ _, (m'.cell (Array.getElem?_eq_some_iff.1 hA.out.row).1).trans cz, frozen_of_row _ _ _ _ _ (hA.out.later m').row, (hA.out.later m').put a 1⟩
  clear cz fz
  have a1 : (a : Int) < (Z : Int) := by omega
  go_enter Try.func77, Try.ntmps77
  go_wp2_with fail
  go_region_held3 (fun w' => w'.cell? ⟨bx, 0, none⟩ = some (.slice (some ⟨g, 0, none⟩) Z Z) ∧ But g w w') (exact HKp.out _ (by assumption)) (first | (go_at_call 78; refine (HeadWord0 _).mono ?_; rintro e w3 ⟨rfl, hM3⟩; obtain ⟨hb3, hb4, c3, z3, hA4⟩ := HM0.out w3 hM3))
  have HA4 : Hid (Arr (w3.setCell ⟨g, a, none⟩ (.int .u64 1)) bx g (chain (zs.set a 1) loc 1)) := hA4
  have hlenc : Hid (∀ k, (chain (zs.set a 1) loc k).length = Z) := fun k => by rw [chain_len, List.length_set, hZ.out]
  clear hM3 hb3 c3 z3 hA4 HM0 HKp hMd0 cb
  generalize w3.setCell ⟨g, a, none⟩ (.int .u64 1) = w4 at *
  go_wp2_with fail
  go_loopw [7] (fun i wr => ∃ k : Nat, 1 ≤ k ∧ k ≤ N ∧ i = .int .i64 k ∧ Hid (Arr wr bx g (chain (zs.set a 1) loc k)) ∧ But g w wr) (fun i _ => (N - intOf i).toNat)
  case atStart => exact ⟨1, by omega, hN, rfl, HA4, hb4⟩
  case round =>
    obtain ⟨k, hk1, hk, rfl, HAr, hbr⟩ := hrel
    by_cases hkN : k < N
    · obtain ⟨ys, hys⟩ : ∃ ys, ys = chain (zs.set a 1) loc k := ⟨_, rfl⟩
      have hyl : ys.length = Z := by rw [hys]; exact hlenc.out k
      have hnext : Hid (ys.set (loc (k - 1)) (IntKind.u64.wrap (IntKind.i64.wrap ((k : Int) + 1))) = chain (zs.set a 1) loc (k + 1)) := by show _ = _; rw [chain_succ _ _ hk1, hys, show IntKind.u64.wrap (IntKind.i64.wrap ((k : Int) + 1)) = (k : Int) + 1 by rw [IntKind.wrap_i64, IntKind.wrap_u64]; omega]
      rw [← hys] at HAr
      have hp := hloc.out (k - 1) (by omega)
      have HL1 : Hid (∀ w3 : World, But g wr w3 → Calls Try.prog 49 #[.pointer (some ⟨p, 0, none⟩), .int .i64 ((k : Int) - 1)] w3 fun e w'' => e = .returned (.int .i64 (loc (k - 1) : Int)) ∧ Made w3 w'') := fun w3 b => HLK.out k w3 hk1 hkN (hbr.trans b)
      generalize loc (k - 1) = q at hnext hp HL1
      have hql : q < ys.length := by omega
      have HKp : Hid (∀ w' : World, But g wr w' → w'.cell? ⟨bx, 0, none⟩ = some (.slice (some ⟨g, 0, none⟩) Z Z) ∧ But g wr w') := fun w' m =>
        ⟨by rw [cell_of_row _ _ _ _ _ _ (m.at HAr.out.ne HAr.out.box), hyl]; rfl, m⟩
      have hMd0 : But g wr wr.drew := But.of_made (Made.drewN wr 1)
      obtain ⟨was, hwas⟩ : ∃ v, v = ys[q] := ⟨_, rfl⟩
      have HM0 : Hid (∀ w3 : World, Made wr.drew w3 → But g wr w3 ∧ But g wr (w3.setCell ⟨g, q, none⟩ (.int .u64 (IntKind.u64.wrap (IntKind.i64.wrap ((k : Int) + 1))))) ∧ w3.cell? ⟨g, q, none⟩ = some (.int .u64 was) ∧ w3.frozen? ⟨g, q, none⟩ = false ∧ Arr (w3.setCell ⟨g, q, none⟩ (.int .u64 (IntKind.u64.wrap (IntKind.i64.wrap ((k : Int) + 1))))) bx g (ys.set q (IntKind.u64.wrap (IntKind.i64.wrap ((k : Int) + 1))))) := fun w3 m => by
        have m' := Made.trans (Made.drewN wr 1) m
        have b3 : But g wr w3 := But.of_made m'
        exact ⟨b3, b3.set _ _, (m'.cell (Array.getElem?_eq_some_iff.1 HAr.out.row).1).trans (by rw [cell_of_row _ _ _ _ _ _ HAr.out.row, hwas]; exact row_at' hql), frozen_of_row _ _ _ _ _ (HAr.out.later m').row, (HAr.out.later m').put q _⟩
      clear hwas hys hyl
      have HVV : Hid (IntKind.u64.wrap (IntKind.i64.wrap ((k : Int) + 1)) = (k : Int) + 1) := by show _ = _; rw [IntKind.wrap_i64, IntKind.wrap_u64]; omega
      have HWR : Hid (IntKind.i64.wrap ((k : Int) - 1) = (k : Int) - 1) := by show _ = _; rw [IntKind.wrap_i64]; omega
      have q1 : (q : Int) < (Z : Int) := by omega
      have kk : (k : Int) < (N : Int) := by omega
      go_wp2_with fail
      go_region_held3 (fun w' => w'.cell? ⟨bx, 0, none⟩ = some (.slice (some ⟨g, 0, none⟩) Z Z) ∧ But g wr w') (exact HKp.out _ (by assumption)) (first | (go_at_call 49; rw [HWR.out]; refine (HL1.out _ hMd0).mono ?_; rintro e w3 ⟨rfl, hM3⟩; obtain ⟨hb3, hb5, c3, z3, hA5⟩ := HM0.out w3 hM3))
      rw [HVV.out] at hb5 hA5
      go_wp2_with fail
      go_roundw
      case rel => exact ⟨k + 1, by omega, by omega, by go_num, by show Arr _ _ _ _; have h := hnext.out; rw [HVV.out] at h; rw [← h]; exact hA5, hbr.trans hb5⟩
      case measure => simp [intOf]; omega
    · obtain rfl : N = k := by omega
      go_wp2_with fail
      go_end0
      exact ⟨⟨_, rfl⟩, HAr.out, hbr⟩
end Go.Proofs.Ytnkcekgjppkbpaa.Fresh
