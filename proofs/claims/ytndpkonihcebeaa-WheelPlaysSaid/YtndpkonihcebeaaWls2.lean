/- Package wheel, walked: List. -/
import Derived.Test.YtndpkonihcebeaaWls
namespace Go.Proofs.Ytndpkonihcebeaa.Whl
open Go.RowKit Go.Proofs.Ytndpkonihcebeaa Go.Proofs.Ytndpkonihcebeaa.Cell Go.Proofs.Ytndpkonihcebeaa.Seq Go.Proofs.Ytndpkonihcebeaa.Num Go.Proofs.Ytndpkonihcebeaa.SetN Go.Proofs.Ytndpkonihcebeaa.Dig Go.Proofs.Ytndpkonihcebeaa.Bits
set_option linter.unusedVariables false
set_option linter.unusedSimpArgs false
variable {a b bl bs L S B : Nat}

/-- The tickets of a level's first slots; of the first levels; all. -/
def slotsUp (chs : Nat → Nat → List Nat) (lv j : Nat) : List (Nat × Nat × Nat) := (List.range j).flatMap fun sl => (chs lv sl).map fun t => (t, lv, sl)
def upTo (S : Nat) (chs : Nat → Nat → List Nat) (k : Nat) : List (Nat × Nat × Nat) := (List.range k).flatMap fun lv => slotsUp chs lv S
def listOf (L S : Nat) (chs : Nat → Nat → List Nat) : List (Nat × Nat × Nat) := upTo S chs L ++ (chs L 0).map fun t => (t, L, 0)
theorem flat_mono {α : Type} (f : Nat → List α) : ∀ d n, ((List.range n).flatMap f).length ≤ ((List.range (n + d)).flatMap f).length
  | 0, n => Nat.le_refl _
  | d + 1, n => by
    refine Nat.le_trans (flat_mono f d n) ?_
    rw [show n + (d + 1) = (n + d) + 1 by omega, List.range_succ, List.flatMap_append, List.length_append]; omega
theorem slotsUp_succ (chs : Nat → Nat → List Nat) (lv j : Nat) : slotsUp chs lv (j + 1) = slotsUp chs lv j ++ (chs lv j).map fun t => (t, lv, j) := by
  unfold slotsUp; rw [List.range_succ, List.flatMap_append]; simp
theorem upTo_succ (chs : Nat → Nat → List Nat) (k : Nat) : upTo S chs (k + 1) = upTo S chs k ++ slotsUp chs k S := by
  unfold upTo; rw [List.range_succ, List.flatMap_append]; simp
theorem list_bound {chs : Nat → Nat → List Nat} {k j : Nat} (hk : k < L) (hj : j < S) : (upTo S chs k ++ slotsUp chs k j).length + (chs k j).length ≤ (listOf L S chs).length := by
  have h1 : (slotsUp chs k (j + 1)).length ≤ (slotsUp chs k S).length := by
    have := flat_mono (fun sl => (chs k sl).map fun t => (t, k, sl)) (S - (j + 1)) (j + 1)
    rw [show j + 1 + (S - (j + 1)) = S by omega] at this; exact this
  have h2 : (upTo S chs (k + 1)).length ≤ (upTo S chs L).length := by
    have := flat_mono (fun lv => slotsUp chs lv S) (L - (k + 1)) (k + 1)
    rw [show k + 1 + (L - (k + 1)) = L by omega] at this; exact this
  rw [slotsUp_succ, List.length_append, List.length_map] at h1
  rw [upTo_succ, List.length_append] at h2
  unfold listOf
  rw [List.length_append, List.length_append]
  omega
theorem shl_wrap {S B : Nat} (hS : S = 2 ^ B) (hB : B ≤ 6) : wrap64 ((2 : Int) ^ min B 64) = (S : Int) := by
  have : B = 0 ∨ B = 1 ∨ B = 2 ∨ B = 3 ∨ B = 4 ∨ B = 5 ∨ B = 6 := by omega
  rcases this with rfl | rfl | rfl | rfl | rfl | rfl | rfl <;> (subst hS; unfold wrap64; rfl)
set_option maxRecDepth 100000 in
set_option maxHeartbeats 8000000 in
theorem List_w {N : Nat} {w : World} {c : Int} {xs : List Int} {chs : Nat → Nat → List Nat} (hA : Arena w a b c xs) (hE : LEnv a b bl bs L S w) (hlen : xs.length = N) (hN : 1 + L + L * S ≤ N) (hN2 : N ≤ 1000) (hS : S = 2 ^ B) (hB : B ≤ 6)
    (hch : ∀ lv sl, lv ≤ L → sl < S → (lv = L → sl = 0) → ∃ h : Nat, xs.getD (at_ L S lv sl) 0 = (h : Int) ∧ Chn L S xs (chs lv sl) h) (htot : (listOf L S chs).length ≤ N) :
    Calls Try.prog 38 #[.agg (WV a bl bs L B)] w fun e w' => ∃ v, e = .returned v ∧ w'.ownsRow w.heap.size 99 3 v (listOf L S chs).length (tc (listOf L S chs)) ∧ Made w w' := by
  have haw := (Array.getElem?_eq_some_iff.1 hA.ha).1
  have hbw := (Array.getElem?_eq_some_iff.1 hA.hb).1
  have hlw := (Array.getElem?_eq_some_iff.1 hE.l).1
  have hsw := (Array.getElem?_eq_some_iff.1 hE.s).1
  have hL8 := hE.l5
  have hS64 := hE.s2
  have hS2 := hE.s1
  have hz0 : ZOk a b w (lz a b fun _ => False) := lz_ok haw hbw (fun k h => h.elim)
  obtain ⟨hm1, hz1, q1⟩ := boxes1 hz0 (OW a bl bs L B)
  obtain ⟨w1, hw1⟩ : ∃ w1, w1 = w.alloc (OW a bl bs L B) := ⟨_, rfl⟩
  have s1 : w1.heap.size = w.heap.size + 1 := by rw [hw1, World.size_alloc]
  rw [← hw1] at hm1 hz1 q1
  have HW := Lib.hid hw1
  clear hw1
  obtain ⟨c0, c1, c2, c3, c4, c5, c6⟩ := wv_cells q1
  have HAL := Lib.hid (Cell.All_c (hA.later hm1) (by omega))
  rw [hlen] at HAL
  have hat : ∀ lv sl, lv ≤ L → sl < S → at_ L S lv sl < N := fun lv sl h1 h2 => by
    unfold at_
    split
    · omega
    · have h3 : (lv + 1) * S ≤ L * S := Nat.mul_le_mul_right _ (by omega)
      rw [Nat.add_mul, Nat.one_mul] at h3
      omega
  have HSN : Hid (∀ w2 wA, Made w1 w2 → w2.heap[w1.heap.size]? = some (.cells (Cell.row xs) 58 (0, 0)) → wA = (w2.alloc (.cells #[.slice (some ⟨w1.heap.size, 0, none⟩) N N] 63)).alloc (OT3 (.slice none 0 0)) →
      (∀ wr v o, Cb3 (w2.heap.size + 1) wA wr v o → Sn a b bl bs L S B w.heap.size w2.heap.size (w2.heap.size + 1) w1.heap.size (lz a b fun k => k = w2.heap.size + 1) xs wr v) ∧ Cb3 (w2.heap.size + 1) wA wA (.slice none 0 0) [] ∧ Made w wA ∧ (∀ wr v o, Cb3 (w2.heap.size + 1) wA wr v o → Made w wr)) := by
    intro w2 wA hm2 hg hwA
    have h2s := hm2.size
    have hgl : w1.heap.size < w2.heap.size := (Array.getElem?_eq_some_iff.1 hg).1
    have k1 : Made w2 (w2.alloc (.cells #[.slice (some ⟨w1.heap.size, 0, none⟩) N N] 63)) := (Made.refl _).alloc (Nat.le_refl _) _
    have k2 : Made (w2.alloc (.cells #[.slice (some ⟨w1.heap.size, 0, none⟩) N N] 63)) wA := by rw [hwA]; exact (Made.refl _).alloc (Nat.le_refl _) _
    have kA : Made w2 wA := Made.trans k1 k2
    have sA : wA.heap.size = w2.heap.size + 1 + 1 := by rw [hwA]; simp only [World.size_alloc]
    have m0A : Made w wA := Made.trans hm1 (Made.trans hm2 kA)
    have ob : wA.heap[w2.heap.size]? = some (.cells #[.slice (some ⟨w1.heap.size, 0, none⟩) N N] 63 (0, 0)) := (k2.block _ (by rw [World.size_alloc]; omega)).trans (heap_alloc_new _ _)
    have oo : wA.heap[w2.heap.size + 1]? = some (OT3 (.slice none 0 0)) := by
      rw [hwA]
      have := heap_alloc_new (w2.alloc (.cells #[.slice (some ⟨w1.heap.size, 0, none⟩) N N] 63)) (OT3 (.slice none 0 0))
      rw [World.size_alloc] at this; exact this
    refine ⟨fun wr v o hcb => ?_, ⟨rfl, rfl, rfl, Nat.le_refl _, fun _ _ _ => rfl, by omega, oo, ⟨rfl, Or.inl ⟨rfl, rfl⟩⟩⟩, m0A, fun wr v o hcb => ⟨hcb.os.trans m0A.os, hcb.tape.trans m0A.tape, hcb.output.trans m0A.output, Nat.le_trans m0A.size hcb.size, fun k hk => by rw [hcb.block k (by have := m0A.size; omega) (by omega)]; exact m0A.block k hk⟩⟩
    have hsr := hcb.size
    have bk : ∀ k o, k ≠ w2.heap.size + 1 → wA.heap[k]? = some o → wr.heap[k]? = some o := fun k o h1 h2 => by rw [hcb.block k (Array.getElem?_eq_some_iff.1 h2).1 h1]; exact h2
    have inA : ∀ {k o}, k < w.heap.size → w.heap[k]? = some o → wA.heap[k]? = some o := fun {k o} h1 h2 => (m0A.block k h1).trans h2
    have okr : ZOk a b wr (lz a b fun k => k = w2.heap.size + 1) := lz_ok (by omega) (by omega) (fun k hk => by omega)
    refine ⟨okr, ⟨⟨by omega, by rintro (g | g | g); exact hE.ap.1 g; exact hE.ap.2.1 g; omega, fun g => g, bk bl _ (by omega) (inA hlw hE.l)⟩, ⟨by omega, by rintro (g | g | g); exact hE.ap.2.2.1 g; exact hE.ap.2.2.2 g; omega, fun g => g, bk bs _ (by omega) (inA hsw hE.s)⟩, hE.l1, hE.l5, hE.s1, hE.s2⟩, ⟨by omega, by rintro (g | g | g) <;> omega, fun g => g, bk _ _ (by omega) ((kA.block _ (by omega)).trans ((hm2.block _ (by omega)).trans q1.obj))⟩, ?_, fun i hi => ?_, ?_⟩
    · rw [hlen, cell_of_row _ _ _ _ _ _ (bk _ _ (by omega) ob)]; rfl
    · rw [cell_of_row _ _ _ _ _ _ (bk _ _ (by omega) ((kA.block _ hgl).trans hg))]
      unfold Cell.row
      simp [List.getD, hi]
    · rw [cell_of_row _ _ _ _ _ _ hcb.box]; rfl
  have HCH := Lib.hid hch
  have HAT := Lib.hid hat
  have HTOT := Lib.hid htot
  have HLEN := Lib.hid hlen
  have HSL := Lib.hid (shl_wrap hS hB)
  have hmf := makeFunc_run
  have hLI : (L : Int) ≤ 8 := by omega
  have hSI : (S : Int) ≤ 64 := by omega
  clear hA hE hlen hN hch htot haw hbw hlw hsw hz0 hm1 hz1 q1 s1 hat hS hB
  go_enter Try.func38, Try.ntmps38
  go_wp2_with fail
  rw [← HW.out]
  refine HAL.out.mono ?_
  rintro e w2 ⟨rfl, hg2, hm2⟩
  obtain ⟨hsn, hcb0, hmA, hmr⟩ := HSN.out w2 _ hm2 hg2 rfl
  have HSNR := Lib.hid hsn
  have HCB0 := Lib.hid hcb0
  have HMR := Lib.hid hmr
  have sn0 := hsn _ _ _ hcb0
  have HMA := Lib.hid hmA
  clear HSN HAL hsn hcb0 hmr hm2 hg2 hmA c0 c1 c2 c3 c4 c5 c6 HW
  go_upto_region 4 with fail
  obtain ⟨wA, hwA⟩ : ∃ wA, wA = (w2.alloc (.cells #[.slice (some ⟨w1.heap.size, 0, none⟩) N N] 63)).alloc (OT3 (.slice none 0 0)) := ⟨_, rfl⟩
  rw [← hwA] at HSNR HCB0 HMR sn0 HMA
  rw [← hwA]
  clear hwA
  obtain ⟨c0, c1, c2, c3, c4, c5, c6⟩ := wv_cells sn0.w
  clear sn0
  go_wp2_with fail
  go_loopw [14] (fun iv wr => ∃ k : Nat, k ≤ L ∧ iv = .int .i64 (k : Int) ∧ ∃ v, Hid (Cb3 (w2.heap.size + 1) wA wr v (upTo S chs k))) (fun iv _ => (L - intOf iv).toNat)
  case atStart => exact ⟨0, by omega, rfl, _, HCB0⟩
  case round =>
    clear HCB0 c0 c1 c2 c3 c4 c5 c6
    obtain ⟨k, hk, rfl, v, HCB⟩ := hrel
    obtain ⟨c0, c1, c2, c3, c4, c5, c6⟩ := wv_cells (HSNR.out wr v _ HCB.out).w
    by_cases hkL : k < L
    · have hkI : (k : Int) < (L : Int) := by omega
      go_wp2_with fail
      rw [HSL.out]
      go_loopw [20] (fun iv wr => ∃ j : Nat, j ≤ S ∧ iv = .int .i64 (j : Int) ∧ ∃ v, Hid (Cb3 (w2.heap.size + 1) wA wr v (upTo S chs k ++ slotsUp chs k j))) (fun iv _ => (S - intOf iv).toNat)
      case atStart => exact ⟨0, by omega, rfl, v, by have e : slotsUp chs k 0 = [] := rfl; rw [e, List.append_nil]; exact HCB⟩
      case round =>
        clear HCB c0 c1 c2 c3 c4 c5 c6
        obtain ⟨j, hj, rfl, v1, HCB1⟩ := hrel
        by_cases hjS : j < S
        · have hjI : (j : Int) < (S : Int) := by omega
          obtain ⟨h, hh1, hh2⟩ := HCH.out k j (by omega) hjS (by omega)
          have hbd := list_bound (chs := chs) hkL hjS
          have hN1 := HLEN.out
          have HEA := Lib.hid (each_w (B := B) HCB1.out HSNR.out (by omega) hjS (by rw [hN1]; exact HAT.out k j (by omega) hjS) hh1 hh2 (by have := HTOT.out; omega) (by omega))
          rw [List.append_assoc, ← slotsUp_succ] at HEA
          clear HCB1 hh1 hh2 hbd hN1
          go_wp2_with fail
          refine HEA.out.mono ?_
          rintro e w5 ⟨⟨r, rfl⟩, v2, hcb2⟩
          have HCB2 := Lib.hid hcb2
          clear hcb2 HEA
          go_wp2_with fail
          go_roundw
          case rel => exact ⟨j + 1, by omega, by go_num, v2, HCB2⟩
          case measure => simp [intOf]; omega
        · obtain rfl : j = S := by omega
          have HCB2 : Hid (Cb3 (w2.heap.size + 1) wA wr v1 (upTo j chs (k + 1))) := by rw [upTo_succ]; exact HCB1
          clear HCB1
          go_wp2_with fail
          go_roundw
          case rel => exact ⟨k + 1, by omega, by go_num, v1, HCB2⟩
          case measure => simp [intOf]; omega
    · obtain rfl : k = L := by omega
      obtain ⟨h, hh1, hh2⟩ := HCH.out k 0 (by omega) (by omega) (fun _ => rfl)
      have hN1 := HLEN.out
      have hbd : (upTo S chs k).length + (chs k 0).length ≤ xs.length := by have := HTOT.out; unfold listOf at this; rw [List.length_append, List.length_map] at this; omega
      have HEA := Lib.hid (each_w (B := B) (sl := 0) HCB.out HSNR.out (Nat.le_refl k) (by omega) (by rw [hN1]; exact HAT.out k 0 (by omega) (by omega)) hh1 hh2 hbd (by omega))
      change Hid (Calls Try.prog 75 #[.int .i64 (k : Int), .int .i64 0, .pointer (some ⟨w2.heap.size, 0, none⟩), .pointer (some ⟨w.heap.size, 0, none⟩), .pointer (some ⟨w2.heap.size + 1, 0, none⟩)] wr _) at HEA
      clear HCB hh1 hh2 hbd hN1
      go_wp2_with fail
      refine HEA.out.mono ?_
      rintro e w5 ⟨⟨r, rfl⟩, v2, hcb2⟩
      have HCB2 := Lib.hid hcb2
      have hbx := (HSNR.out _ _ _ hcb2).box
      clear hcb2 HEA c0 c1 c2 c3 c4 c5 c6
      go_wp2_with fail
      go_ret
      refine ⟨v2, rfl, ?_, HMR.out _ _ _ HCB2.out⟩
      obtain ⟨h1, h0 | ⟨g, cap, cur, e, h2, h3⟩⟩ := HCB2.out.own
      · exact ⟨h1, Or.inl h0⟩
      · exact ⟨h1, Or.inr ⟨g, cap, cur, e, Nat.le_trans HMA.out.size h2, h3⟩⟩
end Go.Proofs.Ytndpkonihcebeaa.Whl
