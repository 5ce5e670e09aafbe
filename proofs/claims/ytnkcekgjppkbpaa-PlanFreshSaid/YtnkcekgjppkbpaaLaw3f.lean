/- Package knelllaw03, walked: PlanUnlike. -/
import Derived.Test.YtnkcekgjppkbpaaLaw3e
import Derived.Laws.MakeOwn
namespace Go.Proofs.Ytnkcekgjppkbpaa.Law3
open Go.RowKit Go.Proofs.Ytnkcekgjppkbpaa Go.Proofs.Ytnkcekgjppkbpaa.PlanN Go.Proofs.Ytnkcekgjppkbpaa.Plan
set_option linter.unusedVariables false
set_option linter.unusedSimpArgs false

theorem made_rowI (n : Nat) : madeCells (Value.int .i64 0).cells n = row (List.replicate n 0) := by
  unfold madeCells row
  apply Array.ext
  · simp
  · intro k h1 h2
    simp [Value.cells, Nat.mod_one]
theorem make_runI (n : Nat) (h : n ≤ 1048576) (w : World) : (Instr.makeSlice 64 (.int .i64 (n : Int)) (.int .i64 (n : Int))).run Try.prog w =
    .ok (.slice (some ⟨w.heap.size, 0, none⟩) n n) (w.alloc (.cells (row (List.replicate n 0)) 3)) := by
  obtain ⟨i, hi, hq⟩ := Option.map_eq_some_iff.1 int_info
  simp only [Prod.mk.injEq] at hq
  obtain ⟨hz, hs, hb⟩ := hq
  have := run_makeSlice (P := Try.prog) w 64 3 i _ (by kernel_rfl) hi hz .i64 .i64 n n (by omega) (by omega) (by rw [hs]; simp; omega) (by rw [hb]; omega) (by omega)
  rw [this, hs]
  simp only [Int.toNat_natCast, Nat.mul_one]
  rw [made_rowI]
/-- The first k are marked. -/
def marks (n k : Nat) : List Int := List.replicate k 1 ++ List.replicate (n - k) 0
theorem marks_zero (n : Nat) : marks n 0 = List.replicate n 0 := by simp [marks]
theorem marks_len {n k : Nat} (h : k ≤ n) : (marks n k).length = n := by simp [marks]; omega
theorem marks_at {n k : Nat} (h : k < n) : (marks n k)[k]? = some 0 := by
  unfold marks
  rw [List.getElem?_append_right (by simp)]
  simp only [List.length_replicate, List.getElem?_replicate]
  rw [if_pos (by omega)]
theorem marks_set {n k : Nat} (h : k < n) : (marks n k).set k 1 = marks n (k + 1) := by
  apply List.ext_getElem?
  intro i
  unfold marks
  rw [List.getElem?_set]
  by_cases h1 : k = i
  · subst h1
    rw [if_pos rfl, if_pos (by simp; omega), List.getElem?_append_left (by simp), List.getElem?_replicate, if_pos (by omega)]
  · rw [if_neg h1]
    by_cases h2 : i < k
    · rw [List.getElem?_append_left (by simpa using h2), List.getElem?_append_left (by simp; omega), List.getElem?_replicate, List.getElem?_replicate, if_pos h2, if_pos (by omega)]
    · rw [List.getElem?_append_right (by simp; omega), List.getElem?_append_right (by simp; omega)]
      simp only [List.length_replicate, List.getElem?_replicate]
      by_cases h3 : i < n
      · rw [if_pos (by omega), if_pos (by omega)]
      · rw [if_neg (by omega), if_neg (by omega)]
/-- What the list of places is like, in memory. -/
theorem own_rg {w : World} {base : Nat} {v : Value} {n : Nat} (h1 : 1 ≤ n) (h : w.ownsRow base 3 1 v n (rg n)) : ∃ g cap, v = .slice (some ⟨g, 0, none⟩) n cap ∧ base ≤ g ∧ g < w.heap.size ∧ ∀ i, i < n → w.cell? ⟨g, i, none⟩ = some (.int .i64 ((i : Nat) : Int)) := by
  obtain ⟨hl, h | ⟨g, cap, cur, rfl, hb, hc, hnc, hm, hs, ht⟩⟩ := h
  · omega
  · refine ⟨g, cap, rfl, hb, (Array.getElem?_eq_some_iff.1 hc).1, fun i hi => ?_⟩
    rw [cell_of_row _ _ _ _ _ _ hc]
    have e : (cur.toList.take (n * 1))[i]? = (rg n)[i]? := by rw [ht]
    rw [List.getElem?_take_of_lt (by omega)] at e
    unfold rg at e
    simpa [hi] using e

set_option maxRecDepth 100000 in
set_option maxHeartbeats 1000000 in
theorem unlike_wrong (xs : List Int) (w : World) (h : xs.length = 13) (hr : ¬ (chk xs).2 = 0) :
    Calls Try.prog 11 #[.agg (row xs)] w fun e w' => e = .returned (.bool true) ∧ Made w w' := by
  have HR := Lib.hid (Right_c xs h false (by simp [hr]))
  have HZ := Lib.hid (show (Try.prog.info? 23).map (·.size) = some 13 by kernel_rfl)
  have HS := Lib.hid (row_size h)
  change Hid (∀ w : World, Calls Try.prog 14 #[.agg (row xs)] w _) at HR
  go_enter Try.func11, Try.ntmps11
  go_wp2_with fail
  refine (speaks_c _).mono ?_
  rintro e w1 ⟨rfl, hM1⟩
  have H1 := (at_start w xs 23).later hM1
  have hM := Made.trans ((Made.refl w).alloc (Nat.le_refl _) _) hM1
  clear hM1
  go_wp2_with (refine wpList_load_row_g (by simp [Region.wanted, yielded, Act.put]) 23 (.tmp 1) rfl w.heap.size (by simp [Act.eval, Act.put]) 23 (row xs) (0, 0) _ H1.out Try.underlying23 rfl (by rw [HS.out]; exact HZ.out) ?_)
  refine (HR.out _).mono ?_
  rintro e w2 ⟨rfl, hM2⟩
  go_wp2_with fail
  refine (speaks_c _).mono ?_
  rintro e w3 ⟨rfl, hM3⟩
  go_wp2_with fail
  go_ret
  exact ⟨rfl, Made.trans hM (Made.trans hM2 hM3)⟩

set_option maxRecDepth 100000 in
set_option maxHeartbeats 4000000 in
theorem unlike_right (xs : List Int) (w : World) (h : xs.length = 13) (hr : Rgt xs) :
    Calls Try.prog 11 #[.agg (row xs)] w fun e w' => e = .returned (.bool true) ∧ Made w w' := by
  obtain ⟨W, L, S, N, T, C, hn⟩ := nats h hr
  obtain ⟨Z, hZ⟩ : ∃ Z, Z = 3 + W * (3 + L * (1 + S)) + 4 * N + 3 * T + C := ⟨_, rfl⟩
  have HR := Lib.hid (Right_c xs h true (by rw [chk_right hr]; rfl))
  change Hid (∀ w : World, Calls Try.prog 14 #[.agg (row xs)] w _) at HR
  have HO := Lib.hid (OfC_c xs h)
  change Hid (∀ w : World, Calls Try.prog 16 #[.agg (row xs)] w fun e w' => e = .returned (.agg (row xs)) ∧ Made w w') at HO
  have HN := Lib.hid (New_yes xs h hr)
  change Hid (∀ w : World, Calls Try.prog 20 #[.agg (row xs)] w fun e w' => ∃ p, e = .returned (.tuple #[.pointer (some ⟨p, 0, none⟩), .int .i64 0]) ∧ IsPlan w' p xs ∧ w.heap.size ≤ p ∧ Made w w') at HN
  have HSZ : Hid (∀ w : World, Calls Try.prog 23 #[.agg (row xs)] w fun e w' => e = .returned (.int .i64 (Z : Int)) ∧ Made w w') := fun w => by
    have := RSize_c xs h hr w
    rw [hn.size, ← hZ] at this
    exact this
  have HCE : Hid (∀ (p : Nat) (w : World), IsPlan w p xs → Calls Try.prog 54 #[.pointer (some ⟨p, 0, none⟩), .agg (row xs)] w fun e w' => ∃ v, e = .returned v ∧ w'.ownsRow (w.heap.size + 1) 3 1 v Z (rg Z) ∧ Made w w') := fun p w hp => by
    have := cells_c hn p w hp
    rw [← hZ] at this
    exact this
  have hZ1 : 3 ≤ Z := by rw [hZ]; omega
  have hZ2 : Z ≤ 75000 := by have := (rng hr).sz; rw [hn.size, ← hZ] at this; omega
  have HZ := Lib.hid (show (Try.prog.info? 23).map (·.size) = some 13 by kernel_rfl)
  have HS := Lib.hid (row_size h)
  have hm := fun w => make_runI Z (by omega) w
  clear h hr hZ hn
  go_enter Try.func11, Try.ntmps11
  go_wp2_with fail
  refine (speaks_c _).mono ?_
  rintro e w1 ⟨rfl, hM1⟩
  have H1 := (at_start w xs 23).later hM1
  have hN1 := Made.trans ((Made.refl w).alloc (Nat.le_refl _) _) hM1
  clear hM1
  go_wp2_with (refine wpList_load_row_g (by simp [Region.wanted, yielded, Act.put]) 23 (.tmp 1) rfl w.heap.size (by simp [Act.eval, Act.put]) 23 (row xs) (0, 0) _ H1.out Try.underlying23 rfl (by rw [HS.out]; exact HZ.out) ?_)
  refine (HR.out _).mono ?_
  rintro e w2 ⟨rfl, hM2⟩
  have H2 := H1.later hM2
  have hN2 := Made.trans hN1 hM2
  clear H1 hN1 hM2 HR
  go_wp2_with (refine wpList_load_row_g (by simp [Region.wanted, yielded, Act.put]) 23 (.tmp 1) rfl w.heap.size (by simp [Act.eval, Act.put]) 23 (row xs) (0, 0) _ H2.out Try.underlying23 rfl (by rw [HS.out]; exact HZ.out) ?_)
  refine (HSZ.out _).mono ?_
  rintro e w3 ⟨rfl, hM3⟩
  have H3 := H2.later hM3
  have hN3 := Made.trans hN2 hM3
  clear H2 hN2 hM3
  by_cases hbig : 20000 < Z
  · have hb : (20000 : Int) < (Z : Int) := by omega
    go_wp2_with fail
    refine (speaks_c _).mono ?_
    rintro e w4 ⟨rfl, hM4⟩
    go_wp2_with fail
    go_ret
    exact ⟨rfl, Made.trans hN3 hM4⟩
  · have hb : ¬ (20000 : Int) < (Z : Int) := by omega
    go_wp2_with (refine wpList_load_row rfl 23 (.tmp 1) rfl w.heap.size (by simp [Act.eval, Act.put]) 23 (row xs) (0, 0) _ H3.out Try.underlying23 rfl (by rw [HS.out]; exact HZ.out) ?_)
    refine (HO.out _).mono ?_
    rintro e w4 ⟨rfl, hM4⟩
    have H4 := H3.later hM4
    have hN4 := Made.trans hN3 hM4
    clear H3 hN3 hM4 HO
    go_wp2_with fail
    refine (HN.out _).mono ?_
    rintro e w5 ⟨p, rfl, hp, _, hM5⟩
    have H5 := H4.later hM5
    have hN5 := Made.trans hN4 hM5
    have HP5 := Lib.hid hp
    clear H4 hN4 hM5 HN hp
    go_wp2_with (refine wpList_load_row rfl 23 (.tmp 1) rfl w.heap.size (by simp [Act.eval, Act.put]) 23 (row xs) (0, 0) _ H5.out Try.underlying23 rfl (by rw [HS.out]; exact HZ.out) ?_)
    refine (HSZ.out _).mono ?_
    rintro e w6 ⟨rfl, hM6⟩
    have H6 := (H5.later hM6).later (w' := w6.alloc (.cells (row (List.replicate Z 0)) 3)) (Below.alloc (Below.refl _ _) (Nat.le_refl _) _)
    have HP6 := Lib.hid (isplan_alloc (isplan_later HP5.out hM6) (.cells (row (List.replicate Z 0)) 3))
    have hN6 := Made.trans hN5 hM6
    have hN7 : Made w (w6.alloc (.cells (row (List.replicate Z 0)) 3)) := hN6.alloc hN6.size _
    clear H5 hN5 hM6 HP5
    go_wp2_with (refine wpList_load_row rfl 23 (.tmp 1) rfl w.heap.size (by simp [Act.eval, Act.put]) 23 (row xs) (0, 0) _ H6.out Try.underlying23 rfl (by rw [HS.out]; exact HZ.out) ?_)
    refine (HCE.out p _ HP6.out).mono ?_
    rintro e w8 ⟨v, rfl, hown, hM8⟩
    obtain ⟨g, cap, rfl, hg, hgl, hcell⟩ := own_rg (by omega) hown
    have HM : Hid (w8.heap[w6.heap.size]? = some (.cells (row (marks Z 0)) 3 (0, 0))) := by
      rw [marks_zero]
      exact (hM8.block _ (by simp)).trans (heap_alloc_new _ _)
    have HCL := Lib.hid hcell
    have hN8 := Made.trans hN7 hM8
    have hgne : g ≠ w6.heap.size := by rw [World.size_alloc] at hg; omega
    have hbB := hN6.size
    clear hown hM8 hcell H6 HP6 hN6 hN7 hg
    generalize w6.heap.size = bt at *
    have HCL2 : Hid (∀ wr : World, (∀ j, j ≠ bt → wr.heap[j]? = w8.heap[j]?) → ∀ i, i < Z → wr.cell? ⟨g, i, none⟩ = some (.int .i64 ((i : Nat) : Int))) := fun wr hw i hi => by
      rw [← HCL.out i hi]
      exact World.cell?_of_block (hw g hgne)
    clear HCL
    go_wp2_with fail
    go_loopw [42] (fun i wr => ∃ k : Nat, k ≤ Z ∧ i = .int .i64 k ∧ Hid (wr.heap[bt]? = some (.cells (row (marks Z k)) 3 (0, 0))) ∧ Hid (∀ j, j ≠ bt → wr.heap[j]? = w8.heap[j]?) ∧ Made w wr) (fun i _ => (Z - intOf i).toNat)
    case atStart => exact ⟨0, by omega, rfl, HM, fun _ _ => rfl, hN8⟩
    case round =>
      obtain ⟨k, hk, rfl, HMr, HJ, hmr⟩ := hrel
      clear HM hN8
      by_cases hlt : k < Z
      · have cx := HCL2.out wr HJ.out k hlt
        have ct : wr.cell? ⟨bt, k, none⟩ = some (.int .i64 0) := by
          rw [cell_of_row _ _ _ _ _ _ HMr.out]
          unfold row
          simp [marks_at hlt]
        have cz : wr.frozen? ⟨bt, k, none⟩ = false := frozen_of_row _ _ _ _ _ HMr.out
        have HM2 : Hid ((wr.setCell ⟨bt, k, none⟩ (.int .i64 1)).heap[bt]? = some (.cells (row (marks Z (k + 1))) 3 (0, 0))) := by
          show _ = _
          rw [setCell_eq_setRow _ _ _ _ _ _ _ HMr.out, heap_setRow_same _ _ _ _ _ _ HMr.out, row_set, marks_set hlt]
        have HJ2 : Hid (∀ j, j ≠ bt → (wr.setCell ⟨bt, k, none⟩ (.int .i64 1)).heap[j]? = w8.heap[j]?) := fun j hj => by
          rw [Plan.heap_setCell_other _ bt k j _ hj]
          exact HJ.out j hj
        have hm2 : Made w (wr.setCell ⟨bt, k, none⟩ (.int .i64 1)) := Below.setCell hmr hbB _
        have HIN := Lib.hid (In_c (k : Int) (Z : Int) true (by simp; omega))
        have i0 : 0 ≤ (k : Int) := by omega
        have i1 : (k : Int) < (Z : Int) := by omega
        go_wp2_with fail
        refine (HIN.out _).mono ?_
        rintro e w' ⟨rfl, rfl⟩
        go_wp2_with fail
        go_roundw
        case rel => exact ⟨k + 1, by omega, by go_num, HM2, HJ2, hm2⟩
        case measure => simp [intOf]; omega
      · obtain rfl : k = Z := by omega
        go_wp2_with fail
        go_ret
        exact ⟨by simp, hmr⟩
theorem unlike (xs : List Int) (w : World) (h : xs.length = 13) (_ : ∀ z ∈ xs, (Lit.int .i64 z).wf = true) :
    Calls Try.prog 11 #[.agg (xs.map (Value.int .i64)).toArray] w fun e w' => e = .returned (.bool true) ∧ Made w w' := by
  change Calls Try.prog 11 #[.agg (row xs)] w fun e w' => e = .returned (.bool true) ∧ Made w w'
  rcases chk_cases xs with ⟨_, hr⟩ | ⟨j, _, _, _, hc⟩
  · exact unlike_right xs w h hr
  · exact unlike_wrong xs w h (by rw [hc]; simp)
end Go.Proofs.Ytnkcekgjppkbpaa.Law3
