/- Package knelllaw02, walked: CellLast. -/
import Derived.Test.YtnkcekgjppkbpaaLaw2e
namespace Go.Proofs.Ytnkcekgjppkbpaa.Law2
open Go.RowKit Go.Proofs.Ytnkcekgjppkbpaa Go.Proofs.Ytnkcekgjppkbpaa.Cell
set_option linter.unusedVariables false
set_option linter.unusedSimpArgs false

def Z20 : Array Value := #[.int .u64 0, .int .u64 0, .int .u64 0, .int .u64 0, .int .u64 0, .int .u64 0, .int .u64 0, .int .u64 0, .int .u64 0, .int .u64 0, .int .u64 0, .int .u64 0, .int .u64 0, .int .u64 0, .int .u64 0, .int .u64 0, .int .u64 0, .int .u64 0, .int .u64 0, .int .u64 0]
theorem z20_row : Z20 = row (List.replicate 20 0) := rfl
theorem al20 (w : World) : (Instr.alloc 58 true (.tuple #[])).run Try.prog w = .ok (.pointer (some ⟨w.heap.size, 0, none⟩)) (w.alloc (.cells Z20 58)) := by kernel_rfl
theorem bl20 : Try.prog.built 58 [] = some Z20 := by kernel_rfl
theorem rowu_size {xs : List Int} (h : xs.length = 20) : (row xs).size = 20 := by unfold row; simp [h]

/-- What holds at the head of a round. -/
structure Last (w wr : World) (a b b5 k : Nat) : Prop where
  ex : ∃ (xs : List Int) (cnt : Int), xs.length = 20 ∧ 0 ≤ cnt ∧ cnt ≤ 100 * (k : Int) ∧ Arena wr a b cnt xs ∧ wr.heap[b5]? = some (.cells (row xs) 58 (0, 0))
  md : Made w wr
  ab : w.heap.size ≤ a ∧ w.heap.size ≤ b ∧ w.heap.size ≤ b5 ∧ b5 ≠ a ∧ b5 ≠ b

theorem turned_cell {a b : Nat} {w w' : World} (h : Turned a b w w') {p : Addr} (h1 : p.block ≠ a) (h2 : p.block ≠ b) : w'.cell? p = w.cell? p := World.cell?_of_block (h.block _ h1 h2)

set_option maxRecDepth 100000 in
set_option maxHeartbeats 4000000 in
theorem last_loop (A : Option Addr) (n c : Nat) (l : List Acc) (hn : Hid (n = l.length)) (hn80 : n ≤ 80) (w : World) (hl : Hid (RdA w w.heap.size A l)) :
    Calls Try.prog 8 #[.slice A n c] w fun e w' => e = .returned (.bool true) ∧ Made w w' := by
  have n1 : ¬ (80 : Int) < (n : Int) := by omega
  have HSZ := Lib.hid (show (Try.prog.info? 58).map (·.size) = some 20 by kernel_rfl)
  go_enter Try.func8, Try.ntmps8
  go_wp2_with fail
  refine (speaks_c _).mono ?_
  rintro e w0 ⟨rfl, hm0⟩
  go_wp2_with fail
  refine (New_yes 20 (by omega) (by omega) _).mono ?_
  rintro e w1 ⟨rfl, hA1, hs1, hm1⟩
  have HP : Hid (Last w (w1.alloc (.cells Z20 58)) (w0.heap.size + 1) w0.heap.size w1.heap.size 0) :=
    ⟨⟨List.replicate 20 0, 0, by simp, by omega, by omega, hA1.later (Below.alloc (Below.refl _ _) (Nat.le_refl _) _), by rw [← z20_row]; exact alloc_new _ _⟩, (Made.trans hm0 hm1).alloc (Made.trans hm0 hm1).size _,
      by have := hm0.size; omega, hm0.size, (Made.trans hm0 hm1).size, by omega, by omega⟩
  clear hA1 hm0 hm1
  have hs1' : w0.heap.size + 2 ≤ w1.heap.size := by omega
  clear hs1
  generalize hAd : w0.heap.size + 1 = ad at *
  generalize w0.heap.size = bl at *
  clear hAd
  go_wp2_with (first | (refine wpList_alloc_zero rfl 58 rfl Z20 al20 ?_) | (refine wpList_build_zero rfl 58 rfl Z20 bl20 ?_) | (refine wpList_store_row rfl 58 (.tmp 5) (.tmp 28) rfl w1.heap.size Z20 (by simp [Act.eval, Act.put]) (by simp [Act.eval, Act.put]) 58 Z20 (alloc_new _ _) HSZ.out rfl (by decide +kernel) ?_; rw [World.setRow_alloc_new]))
  have hab := HP.out.ab
  generalize w1.heap.size = b5 at *
  go_loopw [31] (fun i wr => ∃ k : Nat, k ≤ n ∧ i = .int .i64 k ∧ Hid (Last w wr ad bl b5 k)) (fun i _ => (n - intOf i).toNat)
  case atStart => exact ⟨0, by omega, rfl, HP⟩
  case round =>
    obtain ⟨k, hk, rfl, HPr⟩ := hrel
    clear HP hs1'
    obtain ⟨⟨xs, cnt, hxl, hc0, hc1, hA, hb5⟩, hmr, _⟩ := HPr.out
    have HA := Lib.hid hA
    have HB5 := Lib.hid hb5
    have b5lt : b5 < wr.heap.size := (Array.getElem?_eq_some_iff.1 hb5).1
    have adlt : ad < wr.heap.size := (Array.getElem?_eq_some_iff.1 hA.ha).1
    have bllt : bl < wr.heap.size := (Array.getElem?_eq_some_iff.1 hA.hb).1
    clear hA hb5
    by_cases hkn : k < n
    · have hkl : k < l.length := by have := hn.out; omega
      obtain ⟨ad0, rfl, hadb, c0, c1, c2, c3⟩ := hl.out.later hmr k hkl
      obtain ⟨x, hx⟩ : ∃ x, x = l[k] := ⟨_, rfl⟩
      rw [← hx] at c0 c1 c2 c3
      clear hx
      obtain ⟨xk, xi, xo, xv⟩ := x
      simp only at c0 c1 c2 c3
      have f1 : wr.cell? ⟨(ad0.add (k * 4)).block, (ad0.add (k * 4)).off + 1, none⟩ = some (.int .i64 xi) := c1
      have f2 : wr.cell? ⟨(ad0.add (k * 4)).block, (ad0.add (k * 4)).off + 2, none⟩ = some (.int .u64 xo) := c2
      have f3 : wr.cell? ⟨(ad0.add (k * 4)).block, (ad0.add (k * 4)).off + 3, none⟩ = some (.int .u64 xv) := c3
      clear c1 c2 c3
      have i0 : 0 ≤ (k : Int) := by omega
      have i1 : (k : Int) < (n : Int) := by omega
      have hmA : Made wr (wr.alloc (.cells #[.int .i64 xk, .int .i64 xi, .int .u64 xo, .int .u64 xv] 60)) := Below.alloc (Below.refl _ _) (Nat.le_refl _) _
      have HAA := Lib.hid (HA.out.later hmA)
      by_cases hin : 0 ≤ xi ∧ xi < 20
      · obtain ⟨i, rfl⟩ := Int.eq_ofNat_of_zero_le hin.1
        have hil : i < xs.length := by omega
        obtain ⟨was, hwas⟩ : ∃ v, v = xs[i] := ⟨_, rfl⟩
        have HW : Hid (xs[i] = was) := hwas.symm
        have HSt := Lib.hid (Store_yes HAA.out (by omega) i xv hil)
        have HSw := Lib.hid (Swap_yes HAA.out (by omega) i xv hil)
        rw [HW.out] at HSw
        clear hwas
        have v0 : 0 ≤ (i : Int) := by omega
        have v1 : ¬ (20 : Int) ≤ (i : Int) := by omega
        have v2 : (i : Int) < 20 := by omega
        clear hin
        have hpar : (k : Int) % 2 = 0 ∨ (k : Int) % 2 = 1 := by omega
        rcases hpar with hpar | hpar
        · go_wp2_with fail
          refine HSt.out.mono ?_
          rintro e w4 ⟨rfl, hA4, ht4⟩
          have HA4 := Lib.hid hA4
          have HT4 := Lib.hid ht4
          clear hA4 ht4 hpar HSw
          have x1 : w4.cell? ⟨wr.heap.size, 1, none⟩ = some (.int .i64 (i : Int)) := (turned_cell HT4.out (show wr.heap.size ≠ ad by omega) (show wr.heap.size ≠ bl by omega)).trans (cell_of_row _ _ _ _ _ _ (alloc_new wr _))
          have x3 : w4.cell? ⟨wr.heap.size, 3, none⟩ = some (.int .u64 xv) := (turned_cell HT4.out (show wr.heap.size ≠ ad by omega) (show wr.heap.size ≠ bl by omega)).trans (cell_of_row _ _ _ _ _ _ (alloc_new wr _))
          have h54 : w4.heap[b5]? = some (.cells (row xs) 58 (0, 0)) := (HT4.out.block b5 hab.2.2.2.1 hab.2.2.2.2).trans ((hmA.block _ b5lt).trans HB5.out)
          have c5 : w4.cell? ⟨b5, i, none⟩ = some (.int .u64 was) := by rw [cell_of_row _ _ _ _ _ _ h54, row_at' hil, HW.out]
          have z5 : w4.frozen? ⟨b5, i, none⟩ = false := frozen_of_row _ _ _ _ _ h54
          have H55 : Hid ((w4.setCell ⟨b5, i, none⟩ (.int .u64 xv)).heap[b5]? = some (.cells (row (xs.set i xv)) 58 (0, 0))) := by
            show _ = _
            rw [setCell_eq_setRow _ _ _ _ _ _ _ h54, heap_setRow_same _ _ _ _ _ _ h54, row_put]
          have HA5 : Hid (Arena (w4.setCell ⟨b5, i, none⟩ (.int .u64 xv)) ad bl (cnt + 1) (xs.set i xv)) := Arena.put_far HA4.out hab.2.2.2.1 hab.2.2.2.2 i _
          have hm4 : Made w w4 := Below.trans (Made.trans hmr hmA) (HT4.out.below hab.1 hab.2.1)
          have hm5 : Made w (w4.setCell ⟨b5, i, none⟩ (.int .u64 xv)) := Below.setCell hm4 hab.2.2.1 _
          have hyl : (xs.set i xv).length = 20 := by simpa using hxl
          have hmA' := Lib.hid hmA
          have hd0 : 0 ≤ cnt + 1 := by omega
          have hd1 : cnt + 1 ≤ 100 * (k : Int) + 1 := by omega
          clear h54 hm4 HA4 HT4 hmA HAA
          obtain ⟨ys, hys⟩ : ∃ ys, ys = xs.set i xv := ⟨_, rfl⟩
          rw [← hys] at H55 HA5 hyl
          have HYS := Lib.hid hys
          clear hys
          go_wp2_with (refine wpList_load_row rfl 58 (.tmp 5) rfl b5 (by simp [Act.eval, Act.put]) 58 (row ys) (0, 0) _ H55.out Try.underlying58 rfl (by rw [rowu_size hyl]; exact HSZ.out) ?_)
          go_loopw [100] (fun j_ wr2 => ∃ (j : Nat) (cnt2 : Int), j ≤ 20 ∧ j_ = .int .i64 j ∧ 0 ≤ cnt2 ∧ cnt2 ≤ 100 * (k : Int) + 1 + (j : Int) ∧ Hid (Arena wr2 ad bl cnt2 ys) ∧ Hid (wr2.heap[b5]? = some (.cells (row ys) 58 (0, 0))) ∧ Made w wr2) (fun j_ _ => (20 - intOf j_).toNat)
          case atStart => exact ⟨0, cnt + 1, by omega, rfl, hd0, by omega, HA5, H55, hm5⟩
          case round =>
            clear HA5 H55 hm5
            obtain ⟨j, cnt2, hj, rfl, he0, he1, HAj, HBj, hmj⟩ := hrel
            by_cases hj20 : j < 20
            · have hjl : j < ys.length := by omega
              have hidx : ∀ w : World, (Instr.index 58 (.agg (row ys)) (.int .i64 (j : Int))).run Try.prog w = .ok (.int .u64 ys[j]) w := fun w => run_index_agg (n := 20) (e := 43) Try.underlying58 Try.underlying43 rfl (by kernel_rfl) (row ys) .i64 j _ (by omega) (by omega) (by simpa using row_at' hjl) w
              have HLj := Lib.hid (Load_yes HAj.out (by omega) j hjl)
              generalize ys[j] = u at hidx HLj
              have j0 : 0 ≤ (j : Int) := by omega
              have j1 : (j : Int) < 20 := by omega
              go_wp2_with fail
              refine HLj.out.mono ?_
              rintro e w6 ⟨rfl, hA6, ht6⟩
              have HA6 := Lib.hid hA6
              have H56 : Hid (w6.heap[b5]? = some (.cells (row ys) 58 (0, 0))) := (ht6.block b5 hab.2.2.2.1 hab.2.2.2.2).trans HBj.out
              have hm6 : Made w w6 := Below.trans hmj (ht6.below hab.1 hab.2.1)
              clear hA6 ht6
              go_wp2_with fail
              go_roundw
              case rel => exact ⟨j + 1, cnt2 + 1, by omega, by go_num, by omega, by push_cast; omega, HA6, H56, hm6⟩
              case measure => simp [intOf]; omega
            · obtain rfl : j = 20 := by omega
              have HPl : Hid (Last w wr ad bl b5 (k + 1)) := ⟨⟨ys, cnt2, hyl, he0, by push_cast; omega, HAj.out, HBj.out⟩, hmj, hab⟩
              clear HAj HBj
              go_wp2_with fail
              go_roundw
              case rel => exact ⟨k + 1, by omega, by go_num, HPl⟩
              case measure => simp [intOf]; omega
        · go_wp2_with fail
          have hsA : Turned ad bl (wr.alloc (.cells #[.int .i64 xk, .int .i64 (i : Int), .int .u64 xo, .int .u64 xv] 60)) (wr.alloc (.cells #[.int .i64 xk, .int .i64 (i : Int), .int .u64 xo, .int .u64 xv] 60)).drew := ⟨rfl, rfl, rfl, rfl, fun _ _ _ => rfl⟩
          have k1 : (wr.alloc (.cells #[.int .i64 xk, .int .i64 (i : Int), .int .u64 xo, .int .u64 xv] 60)).cell? ⟨wr.heap.size, 1, none⟩ = some (.int .i64 (i : Int)) := cell_of_row _ _ _ _ _ _ (alloc_new wr _)
          have k3 : (wr.alloc (.cells #[.int .i64 xk, .int .i64 (i : Int), .int .u64 xo, .int .u64 xv] 60)).cell? ⟨wr.heap.size, 3, none⟩ = some (.int .u64 xv) := cell_of_row _ _ _ _ _ _ (alloc_new wr _)
          have k5 : (wr.alloc (.cells #[.int .i64 xk, .int .i64 (i : Int), .int .u64 xo, .int .u64 xv] 60)).cell? ⟨b5, i, none⟩ = some (.int .u64 was) := by rw [cell_of_row _ _ _ _ _ _ ((hmA.block _ b5lt).trans HB5.out), row_at' hil, HW.out]
          have HSwD := Lib.hid (Swap_yes (HAA.out.later (Made.drewN _ 1)) (by omega) i xv hil)
          rw [HW.out] at HSwD
          have nA : wr.heap.size ≠ ad := by omega
          have nB : wr.heap.size ≠ bl := by omega
          have HKT : Hid (∀ w' : World, Turned ad bl (wr.alloc (.cells #[.int .i64 xk, .int .i64 (i : Int), .int .u64 xo, .int .u64 xv] 60)) w' → w'.cell? ⟨wr.heap.size, 1, none⟩ = some (.int .i64 (i : Int)) ∧ w'.cell? ⟨wr.heap.size, 3, none⟩ = some (.int .u64 xv) ∧ w'.cell? ⟨b5, i, none⟩ = some (.int .u64 was) ∧ Turned ad bl (wr.alloc (.cells #[.int .i64 xk, .int .i64 (i : Int), .int .u64 xo, .int .u64 xv] 60)) w') := fun w' ht =>
            ⟨(turned_cell ht nA nB).trans k1, (turned_cell ht nA nB).trans k3, (turned_cell ht hab.2.2.2.1 hab.2.2.2.2).trans k5, ht⟩
          go_region_held3 (fun w' => w'.cell? ⟨wr.heap.size, 1, none⟩ = some (.int .i64 (i : Int)) ∧ w'.cell? ⟨wr.heap.size, 3, none⟩ = some (.int .u64 xv) ∧ w'.cell? ⟨b5, i, none⟩ = some (.int .u64 was) ∧ Turned ad bl (wr.alloc (.cells #[.int .i64 xk, .int .i64 (i : Int), .int .u64 xo, .int .u64 xv] 60)) w') (exact HKT.out _ (by assumption)) (first | (go_at_call 26; refine HSwD.out.mono ?_; rintro e w4 ⟨rfl, hA4, ht4'⟩; have ht4 := hsA.trans ht4'; have HA4 := Lib.hid hA4))
          have HT4 := Lib.hid ht4
          clear k1 k3 k5 hsA hpar HSt HSw HSwD
          have x1 : w4.cell? ⟨wr.heap.size, 1, none⟩ = some (.int .i64 (i : Int)) := (turned_cell HT4.out (show wr.heap.size ≠ ad by omega) (show wr.heap.size ≠ bl by omega)).trans (cell_of_row _ _ _ _ _ _ (alloc_new wr _))
          have x3 : w4.cell? ⟨wr.heap.size, 3, none⟩ = some (.int .u64 xv) := (turned_cell HT4.out (show wr.heap.size ≠ ad by omega) (show wr.heap.size ≠ bl by omega)).trans (cell_of_row _ _ _ _ _ _ (alloc_new wr _))
          have h54 : w4.heap[b5]? = some (.cells (row xs) 58 (0, 0)) := (HT4.out.block b5 hab.2.2.2.1 hab.2.2.2.2).trans ((hmA.block _ b5lt).trans HB5.out)
          have c5 : w4.cell? ⟨b5, i, none⟩ = some (.int .u64 was) := by rw [cell_of_row _ _ _ _ _ _ h54, row_at' hil, HW.out]
          have z5 : w4.frozen? ⟨b5, i, none⟩ = false := frozen_of_row _ _ _ _ _ h54
          have H55 : Hid ((w4.setCell ⟨b5, i, none⟩ (.int .u64 xv)).heap[b5]? = some (.cells (row (xs.set i xv)) 58 (0, 0))) := by
            show _ = _
            rw [setCell_eq_setRow _ _ _ _ _ _ _ h54, heap_setRow_same _ _ _ _ _ _ h54, row_put]
          have HA5 : Hid (Arena (w4.setCell ⟨b5, i, none⟩ (.int .u64 xv)) ad bl (cnt + 1) (xs.set i xv)) := Arena.put_far HA4.out hab.2.2.2.1 hab.2.2.2.2 i _
          have hm4 : Made w w4 := Below.trans (Made.trans hmr hmA) (HT4.out.below hab.1 hab.2.1)
          have hm5 : Made w (w4.setCell ⟨b5, i, none⟩ (.int .u64 xv)) := Below.setCell hm4 hab.2.2.1 _
          have hyl : (xs.set i xv).length = 20 := by simpa using hxl
          have hmA' := Lib.hid hmA
          have hd0 : 0 ≤ cnt + 1 := by omega
          have hd1 : cnt + 1 ≤ 100 * (k : Int) + 1 := by omega
          clear h54 hm4 HA4 HT4 hmA HAA
          obtain ⟨ys, hys⟩ : ∃ ys, ys = xs.set i xv := ⟨_, rfl⟩
          rw [← hys] at H55 HA5 hyl
          have HYS := Lib.hid hys
          clear hys
          go_wp2_with (refine wpList_load_row rfl 58 (.tmp 5) rfl b5 (by simp [Act.eval, Act.put]) 58 (row ys) (0, 0) _ H55.out Try.underlying58 rfl (by rw [rowu_size hyl]; exact HSZ.out) ?_)
          go_loopw [100] (fun j_ wr2 => ∃ (j : Nat) (cnt2 : Int), j ≤ 20 ∧ j_ = .int .i64 j ∧ 0 ≤ cnt2 ∧ cnt2 ≤ 100 * (k : Int) + 1 + (j : Int) ∧ Hid (Arena wr2 ad bl cnt2 ys) ∧ Hid (wr2.heap[b5]? = some (.cells (row ys) 58 (0, 0))) ∧ Made w wr2) (fun j_ _ => (20 - intOf j_).toNat)
          case atStart => exact ⟨0, cnt + 1, by omega, rfl, hd0, by omega, HA5, H55, hm5⟩
          case round =>
            clear HA5 H55 hm5
            obtain ⟨j, cnt2, hj, rfl, he0, he1, HAj, HBj, hmj⟩ := hrel
            by_cases hj20 : j < 20
            · have hjl : j < ys.length := by omega
              have hidx : ∀ w : World, (Instr.index 58 (.agg (row ys)) (.int .i64 (j : Int))).run Try.prog w = .ok (.int .u64 ys[j]) w := fun w => run_index_agg (n := 20) (e := 43) Try.underlying58 Try.underlying43 rfl (by kernel_rfl) (row ys) .i64 j _ (by omega) (by omega) (by simpa using row_at' hjl) w
              have HLj := Lib.hid (Load_yes HAj.out (by omega) j hjl)
              generalize ys[j] = u at hidx HLj
              have j0 : 0 ≤ (j : Int) := by omega
              have j1 : (j : Int) < 20 := by omega
              go_wp2_with fail
              refine HLj.out.mono ?_
              rintro e w6 ⟨rfl, hA6, ht6⟩
              have HA6 := Lib.hid hA6
              have H56 : Hid (w6.heap[b5]? = some (.cells (row ys) 58 (0, 0))) := (ht6.block b5 hab.2.2.2.1 hab.2.2.2.2).trans HBj.out
              have hm6 : Made w w6 := Below.trans hmj (ht6.below hab.1 hab.2.1)
              clear hA6 ht6
              go_wp2_with fail
              go_roundw
              case rel => exact ⟨j + 1, cnt2 + 1, by omega, by go_num, by omega, by push_cast; omega, HA6, H56, hm6⟩
              case measure => simp [intOf]; omega
            · obtain rfl : j = 20 := by omega
              have HPl : Hid (Last w wr ad bl b5 (k + 1)) := ⟨⟨ys, cnt2, hyl, he0, by push_cast; omega, HAj.out, HBj.out⟩, hmj, hab⟩
              clear HAj HBj
              go_wp2_with fail
              go_roundw
              case rel => exact ⟨k + 1, by omega, by go_num, HPl⟩
              case measure => simp [intOf]; omega
      · have hout : xi < 0 ∨ (xs.length : Int) ≤ xi := by omega
        have HS := Lib.hid (Store_no HAA.out xi xv hout)
        have HLd := Lib.hid (Load_no HAA.out xi hout)
        have HSw := Lib.hid (Swap_no HAA.out xi xv hout)
        have HCs := Lib.hid (Cas_no HAA.out xi 0 xv hout)
        have HP2 : Hid (Last w (wr.alloc (.cells #[.int .i64 xk, .int .i64 xi, .int .u64 xo, .int .u64 xv] 60)) ad bl b5 (k + 1)) :=
          ⟨⟨xs, cnt, hxl, hc0, by push_cast; omega, HAA.out, (hmA.block _ b5lt).trans HB5.out⟩, Made.trans hmr hmA, hab⟩
        have hdis : xi < 0 ∨ (¬ xi < 0 ∧ 20 ≤ xi) := by omega
        clear hmA HAA hout hin
        rcases hdis with d1 | ⟨d1, d2⟩
        all_goals
          go_wp2_with fail
          refine HS.out.mono ?_
          rintro e w' ⟨rfl, rfl⟩
          go_wp2_with fail
          refine HLd.out.mono ?_
          rintro e w' ⟨rfl, rfl⟩
          go_wp2_with fail
          refine HSw.out.mono ?_
          rintro e w' ⟨rfl, rfl⟩
          go_wp2_with fail
          refine HCs.out.mono ?_
          rintro e w' ⟨rfl, rfl⟩
          go_wp2_with fail
          go_roundw
          case rel => exact ⟨k + 1, by omega, by go_num, HP2⟩
          case measure => simp [intOf]; omega
    · obtain rfl : k = n := by omega
      go_wp2_with fail
      have hA6 : Arena wr.drew ad bl cnt xs := HA.out.later (Made.drewN wr 1)
      have hB6 : wr.drew.heap[b5]? = some (.cells (row xs) 58 (0, 0)) := HB5.out
      have hM6 : Made w wr.drew := below_drewN hmr 1
      have HX : Hid (20 = xs.length) := hxl.symm
      have b1 : 20 ≤ 1048576 := by omega
      have b2 : ((20 : Nat) : Int) ≤ 9223372036854775807 := by omega
      go_region_held3 (fun w' => Made w w') (assumption) (first | (go_at_call 33; refine (all_n HX hA6 b1).mono ?_; rintro e w33 ⟨rfl, hrow33, hM33⟩; have hB33 := (hM33.block _ (Array.getElem?_eq_some_iff.1 hB6).1).trans hB6; have hMd33 := Made.trans hM6 hM33) | (go_at_call 34; refine (same_c xs xs _ _ 20 20 _ _ HX HX b2 b2 (Rd.row (xs := xs) hrow33 (fun i hi => row_at' hi) (Array.getElem?_eq_some_iff.1 hrow33).1) (Rd.row (xs := xs) hB33 (fun i hi => row_at' hi) (Array.getElem?_eq_some_iff.1 hB33).1)).mono ?_; rintro e w34 ⟨rfl, hM34⟩; have hMd34 := Made.trans hMd33 hM34; rw [decide_eq_true rfl]))
      all_goals
        go_wp2_with fail
        go_ret
        exact ⟨rfl, by assumption⟩

set_option maxRecDepth 100000 in
set_option maxHeartbeats 400000 in
theorem last_far (A : Option Addr) (n c : Nat) (hn : 80 < n) (hn' : (n : Int) ≤ 9223372036854775807) (w : World) :
    Calls Try.prog 8 #[.slice A n c] w fun e w' => e = .returned (.bool true) ∧ Made w w' := by
  have hn1 : 80 < (n : Int) := by omega
  go_enter Try.func8, Try.ntmps8
  go_wp2_with fail
  refine (speaks_c _).mono ?_
  rintro e w0 ⟨rfl, hm0⟩
  go_wp2_with fail
  refine (speaks_c _).mono ?_
  rintro e w1 ⟨rfl, hm1⟩
  go_wp2_with fail
  go_ret
  exact ⟨rfl, Made.trans hm0 hm1⟩
theorem last (v : Value) (l : List Acc) (w : World) (hv : SlA w v l) :
    Calls Try.prog 8 #[v] w fun e w' => e = .returned (.bool true) ∧ Made w w' := by
  obtain ⟨A, c, rfl, _, hlc, hc, hr, _⟩ := hv
  by_cases h80 : l.length ≤ 80
  · exact last_loop A l.length c l rfl h80 w hr
  · exact last_far A l.length c (by omega) (by unfold maxLen at hc; omega) w
end Go.Proofs.Ytnkcekgjppkbpaa.Law2
