/- Package knellref07, walked: Step of an access. -/
import Derived.Test.YthllplocbciepaaRef7a
namespace Go.Proofs.Ythllplocbciepaa.Ref7
open Go.RowKit Go.Proofs.Ythllplocbciepaa Go.Proofs.Ythllplocbciepaa.Cell Go.Proofs.Ythllplocbciepaa.Ref2
set_option linter.unusedVariables false
set_option linter.unusedSimpArgs false
theorem rd_sets {w2 W : World} {B p1 : Nat} {A : Option Addr} {ys : List Int} (h : Rd .u64 w2 B A ys) (hB : B ≤ w2.heap.size) (hs : w2.heap.size ≤ W.heap.size) (ha : ∀ a, 0 < ys.length → A = some a → a.block < p1 ∨ p1 + 1 + 1 < a.block) (hb : ∀ k : Nat, k < w2.heap.size → k ≠ p1 → k ≠ p1 + 1 → k ≠ p1 + 1 + 1 → W.heap[k]? = w2.heap[k]?) : Rd .u64 W W.heap.size A ys := fun i hi => by
  obtain ⟨a, rfl, h1, h2⟩ := h i hi
  have := ha a (by omega) rfl
  refine ⟨a, rfl, by omega, ?_⟩
  rw [← h2]
  exact World.cell?_of_block (hb _ (by rw [add_block]; omega) (by rw [add_block]; omega) (by rw [add_block]; omega) (by rw [add_block]; omega))
theorem sets_other {V : World} {p2 p3 k : Nat} (h2 : k ≠ p2) (h3 : k ≠ p3) (a b c d e : Value) : (((((V.setCell ⟨p2, 0, none⟩ a).setCell ⟨p2, 1, none⟩ b).setCell ⟨p3, 0, none⟩ c).setCell ⟨p3, 1, none⟩ d).setCell ⟨p3, 2, none⟩ e).heap[k]? = V.heap[k]? := by
  rw [Cell.heap_setCell_other _ _ _ _ _ h3, Cell.heap_setCell_other _ _ _ _ _ h3, Cell.heap_setCell_other _ _ _ _ _ h3, Cell.heap_setCell_other _ _ _ _ _ h2, Cell.heap_setCell_other _ _ _ _ _ h2]
theorem rd_end {w2 V : World} {p1 : Nat} {A : Option Addr} {ys : List Int} (h : Rd .u64 w2 w2.heap.size A ys) (hs : V.heap.size = w2.heap.size) (ha : ∀ a, 0 < ys.length → A = some a → a.block < p1 ∨ p1 + 1 + 1 < a.block) (hb : ∀ k : Nat, k ≠ p1 → V.heap[k]? = w2.heap[k]?) (a b c d e : Value) (o : Obj) :
    Rd .u64 ((((((V.setCell ⟨p1 + 1, 0, none⟩ a).setCell ⟨p1 + 1, 1, none⟩ b).setCell ⟨p1 + 1 + 1, 0, none⟩ c).setCell ⟨p1 + 1 + 1, 1, none⟩ d).setCell ⟨p1 + 1 + 1, 2, none⟩ e).alloc o).drew ((((((V.setCell ⟨p1 + 1, 0, none⟩ a).setCell ⟨p1 + 1, 1, none⟩ b).setCell ⟨p1 + 1 + 1, 0, none⟩ c).setCell ⟨p1 + 1 + 1, 1, none⟩ d).setCell ⟨p1 + 1 + 1, 2, none⟩ e).alloc o).drew.heap.size A ys := by
  have hz : ((((((V.setCell ⟨p1 + 1, 0, none⟩ a).setCell ⟨p1 + 1, 1, none⟩ b).setCell ⟨p1 + 1 + 1, 0, none⟩ c).setCell ⟨p1 + 1 + 1, 1, none⟩ d).setCell ⟨p1 + 1 + 1, 2, none⟩ e).alloc o).drew.heap.size = w2.heap.size + 1 := by
    show ((((((V.setCell ⟨p1 + 1, 0, none⟩ a).setCell ⟨p1 + 1, 1, none⟩ b).setCell ⟨p1 + 1 + 1, 0, none⟩ c).setCell ⟨p1 + 1 + 1, 1, none⟩ d).setCell ⟨p1 + 1 + 1, 2, none⟩ e).alloc o).heap.size = _
    rw [World.size_alloc, set_sized, hs]
  refine rd_sets h (Nat.le_refl _) (by omega) ha (fun q hq h1 h2 h3 => ?_)
  refine (heap_alloc_old _ _ (by rw [set_sized, hs]; omega)).trans ?_
  rw [sets_other h2 h3]
  exact hb q h1
set_option maxRecDepth 100000 in
set_option maxHeartbeats 8000000 in
/-- A step of a task that has acts left: the act is an access. -/
theorem Step_do (A : Option Addr) (m c0 : Nat) (cnt : Int) (T : Addr) (n c d : Nat) (s : Int) (k i o v : Int) (xs : List Int) (hm : m = xs.length) (hd : d < n) (hn : (n : Int) ≤ 9223372036854775807) (w : World) (hr : Rd .u64 w w.heap.size A xs)
    (ht : T.block < w.heap.size) (q0 : w.cell? (T.add (d * 4)) = some (.int .i64 k)) (q1 : w.cell? ((T.add (d * 4)).add 1) = some (.int .i64 i)) (q2 : w.cell? ((T.add (d * 4)).add 2) = some (.int .u64 o)) (q3 : w.cell? ((T.add (d * 4)).add 3) = some (.int .u64 v)) (hk0 : ¬ k < 0) (hk1 : ¬ 3 < k) (ys : List Int) (hyl : ys.length = xs.length) (cnt2 vl : Int) (ok : Bool) (hdo : ∀ w', Rd .u64 w' w'.heap.size A xs → Calls Try.prog 94 #[.agg #[.slice A m c0, .int .i64 cnt], .int .i64 k, .int .i64 i, .int .u64 o, .int .u64 v] w' (DoPost A w' ys cnt2 vl ok))
    (s1 s3 : Int) (hs1 : IntKind.u64.wrap (IntKind.u64.wrap (s * 3) + vl) = s1) (hs3 : (if ok && decide (k = 3) then IntKind.u64.wrap (s1 + 1) else s1) = s3) :
    Calls Try.prog 75 #[.agg #[.slice A m c0, .int .i64 cnt], tv (some T) n c d s] w (StepPost A w ys cnt2 (some T) n c (d + 1) s3) := by
  have HE := Lib.hid (fun w => Ended_r (some T) n c d s w hn (by omega))
  have hnd : decide (n ≤ d) = false := by simp; omega
  rw [hnd] at HE
  have HR := Lib.hid hr
  have HDO := Lib.hid hdo
  have HYL := Lib.hid hyl
  have HS1 := Lib.hid hs1
  have HS3 := Lib.hid hs3
  have HN := Lib.hid hm
  have f1 : w.cell? ⟨(T.add (d * 4)).block, (T.add (d * 4)).off + 1, none⟩ = some (.int .i64 i) := q1
  have f2 : w.cell? ⟨(T.add (d * 4)).block, (T.add (d * 4)).off + 2, none⟩ = some (.int .u64 o) := q2
  have f3 : w.cell? ⟨(T.add (d * 4)).block, (T.add (d * 4)).off + 3, none⟩ = some (.int .u64 v) := q3
  have hb0 : (T.add (d * 4)).block < w.heap.size := by rw [add_block]; exact ht
  have Q := Lib.hid (And.intro q0 (And.intro f1 (And.intro f2 f3)))
  clear hyl hdo hs1 hs3 hnd hr hm q0 q1 q2 q3 f1 f2 f3
  go_enter Try.func75, Try.ntmps75
  go_wp2_with fail
  refine (HE.out _).mono ?_
  rintro e w1 ⟨rfl, hM⟩
  obtain ⟨h0, h1, h2, h3, hB⟩ := four_boxes hM
  have hs := hM.size
  simp only [World.size_alloc] at hs
  have g0 := (hB.cell hb0).trans Q.out.1
  have g1 := (hB.cell (p := ⟨(T.add (d * 4)).block, (T.add (d * 4)).off + 1, none⟩) hb0).trans Q.out.2.1
  have g2 := (hB.cell (p := ⟨(T.add (d * 4)).block, (T.add (d * 4)).off + 2, none⟩) hb0).trans Q.out.2.2.1
  have g3 := (hB.cell (p := ⟨(T.add (d * 4)).block, (T.add (d * 4)).off + 3, none⟩) hb0).trans Q.out.2.2.2
  have d0 : (0 : Int) ≤ (d : Int) := by omega
  have d1 : (d : Int) < (n : Int) := by omega
  have H0 := Lib.hid h0
  have H1 := Lib.hid h1
  have H2 := Lib.hid h2
  have H3 := Lib.hid h3
  have HB := Lib.hid hB
  have a0 : w1.cell? ⟨w.heap.size, 0, none⟩ = some (.slice A m c0) := cell_of_row _ _ _ _ _ _ h0
  have a1 : w1.cell? ⟨w.heap.size, 1, none⟩ = some (.int .i64 cnt) := cell_of_row _ _ _ _ _ _ h0
  have b0 : w1.cell? ⟨w.heap.size + 1, 0, none⟩ = some (.slice (some T) n c) := cell_of_row _ _ _ _ _ _ h1
  have b1 : w1.cell? ⟨w.heap.size + 1, 1, none⟩ = some (.int .i64 (d : Int)) := cell_of_row _ _ _ _ _ _ h1
  have b2 : w1.cell? ⟨w.heap.size + 1, 2, none⟩ = some (.int .u64 s) := cell_of_row _ _ _ _ _ _ h1
  have z1 : w1.frozen? ⟨w.heap.size + 1, 1, none⟩ = false := frozen_of_row _ _ _ _ _ h1
  have x0 : w1.cell? ⟨w.heap.size + 1 + 1, 0, none⟩ = some (.slice none 0 0) := cell_of_row _ _ _ _ _ _ h2
  have x1 : w1.cell? ⟨w.heap.size + 1 + 1, 1, none⟩ = some (.int .i64 0) := cell_of_row _ _ _ _ _ _ h2
  have y0 : w1.cell? ⟨w.heap.size + 1 + 1 + 1, 0, none⟩ = some (.slice none 0 0) := cell_of_row _ _ _ _ _ _ h3
  have y1 : w1.cell? ⟨w.heap.size + 1 + 1 + 1, 1, none⟩ = some (.int .i64 0) := cell_of_row _ _ _ _ _ _ h3
  have y2 : w1.cell? ⟨w.heap.size + 1 + 1 + 1, 2, none⟩ = some (.int .u64 0) := cell_of_row _ _ _ _ _ _ h3
  have z20 : w1.frozen? ⟨w.heap.size + 1 + 1, 0, none⟩ = false := frozen_of_row _ _ _ _ _ h2
  have z21 : w1.frozen? ⟨w.heap.size + 1 + 1, 1, none⟩ = false := frozen_of_row _ _ _ _ _ h2
  have z30 : w1.frozen? ⟨w.heap.size + 1 + 1 + 1, 0, none⟩ = false := frozen_of_row _ _ _ _ _ h3
  have z31 : w1.frozen? ⟨w.heap.size + 1 + 1 + 1, 1, none⟩ = false := frozen_of_row _ _ _ _ _ h3
  have z32 : w1.frozen? ⟨w.heap.size + 1 + 1 + 1, 2, none⟩ = false := frozen_of_row _ _ _ _ _ h3
  clear h0 h1 h2 h3 hB hM HE Q
  have hl0 : w.heap.size < w1.heap.size := by omega
  have hl1 : w.heap.size + 1 < w1.heap.size := by omega
  have hl2 : w.heap.size + 1 + 1 < w1.heap.size := by omega
  have hl3 : w.heap.size + 1 + 1 + 1 < w1.heap.size := by omega
  have hm1 := Below.setCell (p := ⟨w.heap.size + 1, 1, none⟩) HB.out (by show _ ≤ _ + 1; omega) (.int .i64 ((d : Int) + 1))
  have hmc := hm1.alloc (by rw [size_setCell]; omega) (.cells #[.int .i64 k, .int .i64 i, .int .u64 o, .int .u64 v] 119)
  have HMC := Lib.hid hmc
  have HZ := Lib.hid (show (Try.prog.info? 68).map (·.size) = some 2 by kernel_rfl)
  have HZ' := Lib.hid (show (Try.prog.info? 73).map (·.size) = some 3 by kernel_rfl)
  clear hm1 hmc
  go_wp2_with fail
  refine (HDO.out _ (rd_same HR.out HMC.out HMC.out.size)).mono ?_
  rintro e w2 ⟨A8, c8, hA8, rfl, hR8, hM8⟩
  have hs2 := hM8.size
  simp only [World.size_alloc, size_setCell] at hs2
  have j1 : w2.heap[w.heap.size + 1]? = some (.cells #[.slice (some T) n c, .int .i64 ((d : Int) + 1), .int .u64 s] 73 (0, 0)) := by
    rw [hM8.block _ (by simp only [World.size_alloc, size_setCell]; omega), heap_alloc_old _ _ (by rw [size_setCell]; omega), heap_setCell_same _ _ _ _ _ _ H1.out]
    simp
  have j2 : w2.heap[w.heap.size + 1 + 1]? = some (.cells #[.slice none 0 0, .int .i64 0] 68 (0, 0)) := by
    rw [hM8.block _ (by simp only [World.size_alloc, size_setCell]; omega), heap_alloc_old _ _ (by rw [size_setCell]; omega), Cell.heap_setCell_other _ _ _ _ _ (by omega)]
    exact H2.out
  have j3 : w2.heap[w.heap.size + 1 + 1 + 1]? = some (.cells #[.slice none 0 0, .int .i64 0, .int .u64 0] 73 (0, 0)) := by
    rw [hM8.block _ (by simp only [World.size_alloc, size_setCell]; omega), heap_alloc_old _ _ (by rw [size_setCell]; omega), Cell.heap_setCell_other _ _ _ _ _ (by omega)]
    exact H3.out
  have j6 : w2.heap[w1.heap.size]? = some (.cells #[.int .i64 k, .int .i64 i, .int .u64 o, .int .u64 v] 119 (0, 0)) := by
    rw [hM8.block _ (by simp only [World.size_alloc, size_setCell]; omega)]
    have := heap_alloc_new (w1.setCell ⟨w.heap.size + 1, 1, none⟩ (.int .i64 ((d : Int) + 1))) (.cells #[.int .i64 k, .int .i64 i, .int .u64 o, .int .u64 v] 119)
    rw [size_setCell] at this
    exact this
  have HM2 := Lib.hid (Below.trans HMC.out (Below.mono hM8 HMC.out.size))
  have HAB : Hid (∀ a, 0 < ys.length → A8 = some a → a.block < w.heap.size + 1 ∨ w.heap.size + 1 + 1 + 1 < a.block) := fun a h0 ha => by
    rcases hA8 with rfl | ⟨p, h1, h2⟩
    · obtain ⟨a', h3, h4, _⟩ := HR.out 0 (by have := HYL.out; omega)
      rw [ha] at h3
      obtain rfl := Option.some.inj h3
      omega
    · simp only [World.size_alloc, size_setCell] at h2
      rw [ha] at h1
      obtain rfl := Option.some.inj h1
      omega
  have HA8 := Lib.hid (show A8 = A ∨ ∃ p : Addr, A8 = some p ∧ w.heap.size ≤ p.block from hA8.imp id fun ⟨p, h1, h2⟩ => ⟨p, h1, by simp only [World.size_alloc, size_setCell] at h2; omega⟩)
  have HR8 := Lib.hid hR8
  clear a0 a1 b0 b1 b2 z1 x0 x1 y0 y1 y2 z20 z21 z30 z31 z32 g0 g1 g2 g3 H0 H1 H2 H3 HB HMC hA8 hR8 hM8 HDO HR
  have b0 : w2.cell? ⟨w.heap.size + 1, 0, none⟩ = some (.slice (some T) n c) := cell_of_row _ _ _ _ _ _ j1
  have b1 : w2.cell? ⟨w.heap.size + 1, 1, none⟩ = some (.int .i64 ((d : Int) + 1)) := cell_of_row _ _ _ _ _ _ j1
  have b2 : w2.cell? ⟨w.heap.size + 1, 2, none⟩ = some (.int .u64 s) := cell_of_row _ _ _ _ _ _ j1
  have z1 : w2.frozen? ⟨w.heap.size + 1, 2, none⟩ = false := frozen_of_row _ _ _ _ _ j1
  have x0 : w2.cell? ⟨w.heap.size + 1 + 1, 0, none⟩ = some (.slice none 0 0) := cell_of_row _ _ _ _ _ _ j2
  have x1 : w2.cell? ⟨w.heap.size + 1 + 1, 1, none⟩ = some (.int .i64 0) := cell_of_row _ _ _ _ _ _ j2
  have y0 : w2.cell? ⟨w.heap.size + 1 + 1 + 1, 0, none⟩ = some (.slice none 0 0) := cell_of_row _ _ _ _ _ _ j3
  have y1 : w2.cell? ⟨w.heap.size + 1 + 1 + 1, 1, none⟩ = some (.int .i64 0) := cell_of_row _ _ _ _ _ _ j3
  have y2 : w2.cell? ⟨w.heap.size + 1 + 1 + 1, 2, none⟩ = some (.int .u64 0) := cell_of_row _ _ _ _ _ _ j3
  have z20 : w2.frozen? ⟨w.heap.size + 1 + 1, 0, none⟩ = false := frozen_of_row _ _ _ _ _ j2
  have z21 : w2.frozen? ⟨w.heap.size + 1 + 1, 1, none⟩ = false := frozen_of_row _ _ _ _ _ j2
  have z30 : w2.frozen? ⟨w.heap.size + 1 + 1 + 1, 0, none⟩ = false := frozen_of_row _ _ _ _ _ j3
  have z31 : w2.frozen? ⟨w.heap.size + 1 + 1 + 1, 1, none⟩ = false := frozen_of_row _ _ _ _ _ j3
  have z32 : w2.frozen? ⟨w.heap.size + 1 + 1 + 1, 2, none⟩ = false := frozen_of_row _ _ _ _ _ j3
  have v0 : w2.cell? ⟨w1.heap.size, 0, none⟩ = some (.int .i64 k) := cell_of_row _ _ _ _ _ _ j6
  have J2 := Lib.hid j2
  have J3 := Lib.hid j3
  clear j1 j2 j3 j6
  have l0 : w.heap.size < w2.heap.size := by omega
  have l1 : w.heap.size + 1 < w2.heap.size := by omega
  have l2 : w.heap.size + 1 + 1 < w2.heap.size := by omega
  have l3 : w.heap.size + 1 + 1 + 1 < w2.heap.size := by omega
  have l4 : w1.heap.size < w2.heap.size := by omega
  clear hl0 hl1 hl2 hl3 hs hs2
  have HL2 := Lib.hid l2
  have HL3 := Lib.hid l3
  have hm1 : ∀ z, Made w (w2.setCell ⟨w.heap.size + 1, 2, none⟩ z) := fun z => Below.setCell (p := ⟨w.heap.size + 1, 2, none⟩) HM2.out (by show _ ≤ _ + 1; omega) z
  have k2 : ∀ z, (w2.setCell ⟨w.heap.size + 1, 2, none⟩ z).heap[w.heap.size + 1 + 1]? = some (.cells #[.slice none 0 0, .int .i64 0] 68 (0, 0)) := fun z => (Cell.heap_setCell_other _ _ _ _ _ (by omega)).trans J2.out
  have k3 : ∀ z, (w2.setCell ⟨w.heap.size + 1, 2, none⟩ z).heap[w.heap.size + 1 + 1 + 1]? = some (.cells #[.slice none 0 0, .int .i64 0, .int .u64 0] 73 (0, 0)) := fun z => (Cell.heap_setCell_other _ _ _ _ _ (by omega)).trans J3.out
  have k2' : ∀ z z', ((w2.setCell ⟨w.heap.size + 1, 2, none⟩ z).setCell ⟨w.heap.size + 1, 2, none⟩ z').heap[w.heap.size + 1 + 1]? = some (.cells #[.slice none 0 0, .int .i64 0] 68 (0, 0)) := fun z z' => (Cell.heap_setCell_other _ _ _ _ _ (by omega)).trans (k2 z)
  have k3' : ∀ z z', ((w2.setCell ⟨w.heap.size + 1, 2, none⟩ z).setCell ⟨w.heap.size + 1, 2, none⟩ z').heap[w.heap.size + 1 + 1 + 1]? = some (.cells #[.slice none 0 0, .int .i64 0, .int .u64 0] 73 (0, 0)) := fun z z' => (Cell.heap_setCell_other _ _ _ _ _ (by omega)).trans (k3 z)
  have HRR := Lib.hid (fun z => ret_rows (k2 z) (k3 z) (by omega) (.slice A8 ys.length c8) (.int .i64 cnt2) (.slice (some T) n c) (.int .i64 ((d : Int) + 1)) (.int .u64 s3))
  have HRM := Lib.hid (fun z => ret_made (p2 := w.heap.size + 1 + 1) (p3 := w.heap.size + 1 + 1 + 1) (hm1 z) (by omega) (by omega) (.slice A8 ys.length c8) (.int .i64 cnt2) (.slice (some T) n c) (.int .i64 ((d : Int) + 1)) (.int .u64 s3))
  have HRR' := Lib.hid (fun z z' => ret_rows (k2' z z') (k3' z z') (by omega) (.slice A8 ys.length c8) (.int .i64 cnt2) (.slice (some T) n c) (.int .i64 ((d : Int) + 1)) (.int .u64 s3))
  have HRM' := Lib.hid (fun z z' => ret_made (p2 := w.heap.size + 1 + 1) (p3 := w.heap.size + 1 + 1 + 1) (Below.setCell (p := ⟨w.heap.size + 1, 2, none⟩) (hm1 z) (by show _ ≤ _ + 1; omega) z') (by omega) (by omega) (.slice A8 ys.length c8) (.int .i64 cnt2) (.slice (some T) n c) (.int .i64 ((d : Int) + 1)) (.int .u64 s3))
  clear k2 k3 k2' k3' hm1
  cases ok
  · have HSE : Hid (s1 = s3) := by have := HS3.out; show _ = _; simpa using this
    clear HS3
    go_wp2_with fail
    rw [HS1.out, HSE.out]
    go_region
    all_goals
      go_wp2_with fail
      refine bodyPost_ret (results_two rfl _ _ (w.heap.size + 1 + 1) (w.heap.size + 1 + 1 + 1) 68 73 #[.slice A8 ys.length c8, .int .i64 cnt2] #[.slice (some T) n c, .int .i64 ((d : Int) + 1), .int .u64 s3] (0, 0) (0, 0) _ _ ?hp ?hg Try.underlying68 rfl HZ.out ?hq ?hg' Try.underlying73 rfl HZ'.out) rfl ?_
      case hp => simp [Act.put]
      case hq => simp [Act.put]
      case hg =>
        refine (heap_alloc_old _ _ ?_).trans (HRR.out (.int .u64 s3)).1
        rw [set_sized]; simp only [size_setCell]; exact HL2.out
      case hg' =>
        refine (heap_alloc_old _ _ ?_).trans (HRR.out (.int .u64 s3)).2
        rw [set_sized]; simp only [size_setCell]; exact HL3.out
      have hm2 := below_drewN ((HRM.out (.int .u64 s3)).alloc (o := .cells #[.slice A8 ys.length c8, .int .i64 cnt2] 68) (HRM.out (.int .u64 s3)).size) 1
      exact ⟨A8, c8, HA8.out, rfl, rd_end (p1 := w.heap.size + 1) HR8.out (by simp only [size_setCell]) HAB.out (fun q h1 => by rw [Cell.heap_setCell_other _ _ _ _ _ h1]) _ _ _ _ _ _, hm2⟩
  · by_cases h3 : k = 3
    · subst h3
      have HSE : Hid (IntKind.u64.wrap (s1 + 1) = s3) := by have := HS3.out; show _ = _; simpa using this
      clear HS3
      go_wp2_with fail
      rw [HS1.out, HSE.out]
      go_region
      all_goals
        go_wp2_with fail
        refine bodyPost_ret (results_two rfl _ _ (w.heap.size + 1 + 1) (w.heap.size + 1 + 1 + 1) 68 73 #[.slice A8 ys.length c8, .int .i64 cnt2] #[.slice (some T) n c, .int .i64 ((d : Int) + 1), .int .u64 s3] (0, 0) (0, 0) _ _ ?hp ?hg Try.underlying68 rfl HZ.out ?hq ?hg' Try.underlying73 rfl HZ'.out) rfl ?_
        case hp => simp [Act.put]
        case hq => simp [Act.put]
        case hg =>
          refine (heap_alloc_old _ _ ?_).trans (HRR'.out (.int .u64 s1) (.int .u64 s3)).1
          rw [set_sized]; simp only [size_setCell]; exact HL2.out
        case hg' =>
          refine (heap_alloc_old _ _ ?_).trans (HRR'.out (.int .u64 s1) (.int .u64 s3)).2
          rw [set_sized]; simp only [size_setCell]; exact HL3.out
        have hm2 := below_drewN ((HRM'.out (.int .u64 s1) (.int .u64 s3)).alloc (o := .cells #[.slice A8 ys.length c8, .int .i64 cnt2] 68) (HRM'.out (.int .u64 s1) (.int .u64 s3)).size) 1
        exact ⟨A8, c8, HA8.out, rfl, rd_end (p1 := w.heap.size + 1) HR8.out (by simp only [size_setCell]) HAB.out (fun q h1 => by rw [Cell.heap_setCell_other _ _ _ _ _ h1, Cell.heap_setCell_other _ _ _ _ _ h1]) _ _ _ _ _ _, hm2⟩
    · have HSE : Hid (s1 = s3) := by have := HS3.out; show _ = _; simpa [h3] using this
      clear HS3
      go_wp2_with fail
      rw [HS1.out, HSE.out]
      go_region
      all_goals
        go_wp2_with fail
        refine bodyPost_ret (results_two rfl _ _ (w.heap.size + 1 + 1) (w.heap.size + 1 + 1 + 1) 68 73 #[.slice A8 ys.length c8, .int .i64 cnt2] #[.slice (some T) n c, .int .i64 ((d : Int) + 1), .int .u64 s3] (0, 0) (0, 0) _ _ ?hp ?hg Try.underlying68 rfl HZ.out ?hq ?hg' Try.underlying73 rfl HZ'.out) rfl ?_
        case hp => simp [Act.put]
        case hq => simp [Act.put]
        case hg =>
          refine (heap_alloc_old _ _ ?_).trans (HRR.out (.int .u64 s3)).1
          rw [set_sized]; simp only [size_setCell]; exact HL2.out
        case hg' =>
          refine (heap_alloc_old _ _ ?_).trans (HRR.out (.int .u64 s3)).2
          rw [set_sized]; simp only [size_setCell]; exact HL3.out
        have hm2 := below_drewN ((HRM.out (.int .u64 s3)).alloc (o := .cells #[.slice A8 ys.length c8, .int .i64 cnt2] 68) (HRM.out (.int .u64 s3)).size) 1
        exact ⟨A8, c8, HA8.out, rfl, rd_end (p1 := w.heap.size + 1) HR8.out (by simp only [size_setCell]) HAB.out (fun q h1 => by rw [Cell.heap_setCell_other _ _ _ _ _ h1]) _ _ _ _ _ _, hm2⟩
end Go.Proofs.Ythllplocbciepaa.Ref7
