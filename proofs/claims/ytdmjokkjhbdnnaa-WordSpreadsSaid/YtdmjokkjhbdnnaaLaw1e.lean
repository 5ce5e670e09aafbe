/- WordSpreads, walked: it answers true for every word. -/
import Derived.Test.YtdmjokkjhbdnnaaLaw1
import Derived.Test.YtdmjokkjhbdnnaaRef1c
import Derived.Test.YtdmjokkjhbdnnaaOfs
namespace Go.Proofs.Ytdmjokkjhbdnnaa.Law1
open Go.RowKit Go.Proofs.Ytdmjokkjhbdnnaa Go.Proofs.Ytdmjokkjhbdnnaa.Num Go.Proofs.Ytdmjokkjhbdnnaa.Wd Go.Proofs.Ytdmjokkjhbdnnaa.Ref1
set_option linter.unusedVariables false
set_option linter.unusedSimpArgs false

theorem getN_i64 (x s n : Nat) (h : n ≤ 32) : I64 (getN x s n : Nat) ∧ ((getN x s n : Nat) : Int) ≤ 4294967295 := by
  have h1 := getN_lt x s n
  have h2 : 2 ^ n ≤ 4294967296 := Nat.le_trans (Nat.pow_le_pow_right (n := 2) (by decide) h) (by decide)
  unfold I64
  omega
/-- What stands in a word of that kind. -/
def WR (x r : Nat) : List Nat := nums x (widthsOf r)
theorem five {r : Nat} (h : r < 5) : r = 0 ∨ r = 1 ∨ r = 2 ∨ r = 3 ∨ r = 4 := by omega

theorem eleven (A : World) (o0 o1 o2 o3 o4 o5 o6 o7 o8 o9 o10 : Obj) (w : World) (hw : w.heap = (((((((((((A.alloc o0).alloc o1).alloc o2).alloc o3).alloc o4).alloc o5).alloc o6).alloc o7).alloc o8).alloc o9).alloc o10).heap) :
    w.heap[A.heap.size]? = some o0 ∧ w.heap[A.heap.size + 1]? = some o1 ∧ w.heap[A.heap.size + 2]? = some o2 ∧ w.heap[A.heap.size + 3]? = some o3 ∧ w.heap[A.heap.size + 4]? = some o4 ∧ w.heap[A.heap.size + 5]? = some o5 ∧ w.heap[A.heap.size + 6]? = some o6 ∧
    w.heap[A.heap.size + 7]? = some o7 ∧ w.heap[A.heap.size + 8]? = some o8 ∧ w.heap[A.heap.size + 9]? = some o9 ∧ w.heap[A.heap.size + 10]? = some o10 := by
  rw [hw]
  have e : ∀ (W : World) (o : Obj) (k : Nat), (W.alloc o).heap[k]? = if k = W.heap.size then some o else W.heap[k]? := fun W o k => by
    show (W.heap.push o)[k]? = _
    rw [Array.getElem?_push]
  have s : ∀ (W : World) (o : Obj), (W.alloc o).heap.size = W.heap.size + 1 := fun W o => World.size_alloc W o
  refine ⟨?_, ?_, ?_, ?_, ?_, ?_, ?_, ?_, ?_, ?_, ?_⟩ <;> simp only [e, s] <;> repeat (first | rw [if_pos (by omega)] | rw [if_neg (by omega)] | rw [if_pos trivial])
theorem made_eleven (A w : World) {o0 o1 o2 o3 o4 o5 o6 o7 o8 o9 o10 : Obj} (hw : w = (((((((((((A.alloc o0).alloc o1).alloc o2).alloc o3).alloc o4).alloc o5).alloc o6).alloc o7).alloc o8).alloc o9).alloc o10)) : Made A w := by
  subst hw
  exact (((((((((((Made.refl A).alloc (Nat.le_refl _) _).alloc (by simp) _).alloc (by simp; omega) _).alloc (by simp; omega) _).alloc (by simp; omega) _).alloc (by simp; omega) _).alloc (by simp; omega) _).alloc (by simp; omega) _).alloc (by simp; omega) _).alloc (by simp; omega) _).alloc (by simp; omega) _

def Kinds (x : Nat) (a0 a1 a2 b0 b1 b2 c0 c1 d0 d1 d2 d3 : Nat) : Prop := WR x 0 = [a0, a1, a2] ∧ WR x 1 = [b0, b1, b2] ∧ WR x 2 = [b0, b1, b2] ∧ WR x 3 = [c0, c1] ∧ WR x 4 = [d0, d1, d2, d3]
structure Lay (a0 a1 a2 b0 b1 b2 c0 c1 d0 d1 d2 d3 : Nat) (b : Nat) (w : World) : Prop where
  s0 : w.heap[b]? = some (.cells #[.int .i64 (a0 : Int), .int .i64 (a1 : Int), .int .i64 (a2 : Int)] 28 (0, 0))
  s1 : w.heap[b + 1]? = some (.cells #[.int .i64 (b0 : Int), .int .i64 (b1 : Int), .int .i64 (b2 : Int)] 31 (0, 0))
  s2 : w.heap[b + 2]? = some (.cells #[.int .i64 (b0 : Int), .int .i64 (b1 : Int), .int .i64 (b2 : Int)] 38 (0, 0))
  s3 : w.heap[b + 3]? = some (.cells #[.int .i64 (c0 : Int), .int .i64 ((c1 : Int) - 1)] 35 (0, 0))
  s4 : w.heap[b + 4]? = some (.cells #[.int .i64 (d0 : Int), .int .i64 (d1 : Int), .int .i64 (d2 : Int), .int .i64 (d3 : Int)] 33 (0, 0))
  r0 : w.heap[b + 5]? = some (.cells #[.int .i64 (a0 : Int), .int .i64 (a1 : Int), .int .i64 (a2 : Int)] 3 (0, 0))
  r1 : w.heap[b + 6]? = some (.cells #[.int .i64 (b0 : Int), .int .i64 (b1 : Int), .int .i64 (b2 : Int)] 3 (0, 0))
  r2 : w.heap[b + 7]? = some (.cells #[.int .i64 (b0 : Int), .int .i64 (b1 : Int), .int .i64 (b2 : Int)] 3 (0, 0))
  r3 : w.heap[b + 8]? = some (.cells #[.int .i64 (c0 : Int), .int .i64 (c1 : Int)] 3 (0, 0))
  r4 : w.heap[b + 9]? = some (.cells #[.int .i64 (d0 : Int), .int .i64 (d1 : Int), .int .i64 (d2 : Int), .int .i64 (d3 : Int)] 3 (0, 0))
  top : w.heap[b + 10]? = some (.cells #[.slice (some ⟨b + 5, 0, none⟩) 3 3, .slice (some ⟨b + 6, 0, none⟩) 3 3, .slice (some ⟨b + 7, 0, none⟩) 3 3, .slice (some ⟨b + 8, 0, none⟩) 2 2, .slice (some ⟨b + 9, 0, none⟩) 4 4] 41 (0, 0))
theorem Lay.later {a0 a1 a2 b0 b1 b2 c0 c1 d0 d1 d2 d3 b : Nat} {w w' : World} (h : Lay a0 a1 a2 b0 b1 b2 c0 c1 d0 d1 d2 d3 b w) (m : Made w w') : Lay a0 a1 a2 b0 b1 b2 c0 c1 d0 d1 d2 d3 b w' := by
  have k : ∀ {g : Nat} {o : Obj}, w.heap[g]? = some o → w'.heap[g]? = some o := fun {g o} e => (m.block _ (Array.getElem?_eq_some_iff.1 e).1).trans e
  exact ⟨k h.s0, k h.s1, k h.s2, k h.s3, k h.s4, k h.r0, k h.r1, k h.r2, k h.r3, k h.r4, k h.top⟩
theorem lay_outer {x a0 a1 a2 b0 b1 b2 c0 c1 d0 d1 d2 d3 b : Nat} {w : World} (h : Lay a0 a1 a2 b0 b1 b2 c0 c1 d0 d1 d2 d3 b w) {r : Nat} (hr : r < 5) : w.cell? ⟨b + 10, r, none⟩ = some (.slice (some ⟨b + 5 + r, 0, none⟩) (widthsOf r).length (widthsOf r).length) := by
  rw [cell_of_row _ _ _ _ _ _ h.top]
  rcases five hr with rfl | rfl | rfl | rfl | rfl <;> rfl
theorem lay_inner {x a0 a1 a2 b0 b1 b2 c0 c1 d0 d1 d2 d3 b : Nat} {w : World} (hk : Kinds x a0 a1 a2 b0 b1 b2 c0 c1 d0 d1 d2 d3) (h : Lay a0 a1 a2 b0 b1 b2 c0 c1 d0 d1 d2 d3 b w) {r : Nat} (hr : r < 5) : w.heap[b + 5 + r]? = some (.cells (ints (WR x r)) 3 (0, 0)) := by
  obtain ⟨k0, k1, k2, k3, k4⟩ := hk
  rcases five hr with rfl | rfl | rfl | rfl | rfl
  · rw [k0]; exact h.r0
  · rw [k1]; exact h.r1
  · rw [k2]; exact h.r2
  · rw [k3]; exact h.r3
  · rw [k4]; exact h.r4
theorem widths_len {r : Nat} (hr : r < 5) : (widthsOf r).length ≤ 4 := by
  rcases five hr with rfl | rfl | rfl | rfl | rfl <;> simp [widthsOf]
theorem widths_63 {r : Nat} (hr : r < 5) : ∀ n ∈ widthsOf r, n ≤ 63 := by
  rcases five hr with rfl | rfl | rfl | rfl | rfl <;> simp [widthsOf]
theorem alloc_cells (w : World) (l : List Nat) (k : Nat) (h : k < l.length) : (w.alloc (.cells (ints l) 3)).cell? ⟨w.heap.size, k, none⟩ = some (.int .i64 (l[k] : Int)) := by
  rw [cell_of_row _ _ _ _ _ _ (Go.heap_alloc_new w _)]; exact ints_at h

set_option maxRecDepth 100000 in
set_option maxHeartbeats 4000000 in
theorem spreads_any (x : Nat) (hx : x < 2 ^ 64) (a0 a1 a2 b0 b1 b2 c0 c1 d0 d1 d2 d3 : Nat) (e0 : WR x 0 = [a0, a1, a2]) (e1 : WR x 1 = [b0, b1, b2]) (e2 : WR x 2 = [b0, b1, b2]) (e3 : WR x 3 = [c0, c1]) (e4 : WR x 4 = [d0, d1, d2, d3])
    (hc1 : c1 ≤ 4294967295)
    (HO0 : Hid (∀ w : World, Calls Try.prog 36 #[.int .u64 x] w fun e w' => e = .returned (.agg #[.int .i64 (a0 : Int), .int .i64 (a1 : Int), .int .i64 (a2 : Int)]) ∧ Made w w'))
    (HO1 : Hid (∀ w : World, Calls Try.prog 37 #[.int .u64 x] w fun e w' => e = .returned (.agg #[.int .i64 (b0 : Int), .int .i64 (b1 : Int), .int .i64 (b2 : Int)]) ∧ Made w w'))
    (HO2 : Hid (∀ w : World, Calls Try.prog 38 #[.int .u64 x] w fun e w' => e = .returned (.agg #[.int .i64 (b0 : Int), .int .i64 (b1 : Int), .int .i64 (b2 : Int)]) ∧ Made w w'))
    (HO3 : Hid (∀ w : World, Calls Try.prog 39 #[.int .u64 x] w fun e w' => e = .returned (.agg #[.int .i64 (c0 : Int), .int .i64 ((c1 : Int) - 1)]) ∧ Made w w'))
    (HO4 : Hid (∀ w : World, Calls Try.prog 40 #[.int .u64 x] w fun e w' => e = .returned (.agg #[.int .i64 (d0 : Int), .int .i64 (d1 : Int), .int .i64 (d2 : Int), .int .i64 (d3 : Int)]) ∧ Made w w'))
    (HW0 : Hid (∀ w : World, Calls Try.prog 14 #[.agg #[.int .i64 (a0 : Int), .int .i64 (a1 : Int), .int .i64 (a2 : Int)]] w fun e w' => e = .returned (.tuple #[.int .u64 (x : Int), .int .i64 0]) ∧ Made w w'))
    (HW1 : Hid (∀ w : World, Calls Try.prog 15 #[.agg #[.int .i64 (b0 : Int), .int .i64 (b1 : Int), .int .i64 (b2 : Int)]] w fun e w' => e = .returned (.tuple #[.int .u64 (x : Int), .int .i64 0]) ∧ Made w w'))
    (HW2 : Hid (∀ w : World, Calls Try.prog 18 #[.agg #[.int .i64 (b0 : Int), .int .i64 (b1 : Int), .int .i64 (b2 : Int)]] w fun e w' => e = .returned (.tuple #[.int .u64 (x : Int), .int .i64 0]) ∧ Made w w'))
    (HW3 : Hid (∀ w : World, Calls Try.prog 17 #[.agg #[.int .i64 (c0 : Int), .int .i64 ((c1 : Int) - 1)]] w fun e w' => e = .returned (.tuple #[.int .u64 (x : Int), .int .i64 0]) ∧ Made w w'))
    (HW4 : Hid (∀ w : World, Calls Try.prog 16 #[.agg #[.int .i64 (d0 : Int), .int .i64 (d1 : Int), .int .i64 (d2 : Int), .int .i64 (d3 : Int)]] w fun e w' => e = .returned (.tuple #[.int .u64 (x : Int), .int .i64 0]) ∧ Made w w'))
    (w : World) :
    Calls Try.prog 12 #[.int .u64 x] w fun e w' => e = .returned (.bool true) ∧ Made w w' := by
  have HX := Lib.hid hx
  have HK : Hid (Kinds x a0 a1 a2 b0 b1 b2 c0 c1 d0 d1 d2 d3) := ⟨e0, e1, e2, e3, e4⟩
  have Z0 := Lib.hid (show (Try.prog.info? 28).map (·.size) = some 3 by kernel_rfl)
  have Z1 := Lib.hid (show (Try.prog.info? 31).map (·.size) = some 3 by kernel_rfl)
  have Z2 := Lib.hid (show (Try.prog.info? 38).map (·.size) = some 3 by kernel_rfl)
  have Z3 := Lib.hid (show (Try.prog.info? 35).map (·.size) = some 2 by kernel_rfl)
  have Z4 := Lib.hid (show (Try.prog.info? 33).map (·.size) = some 4 by kernel_rfl)
  clear hx e0 e1 e2 e3 e4
  go_enter Try.func12, Try.ntmps12
  go_wp2_with fail
  refine (speaks_c _).mono ?_
  rintro e w1 ⟨rfl, hM1⟩
  go_wp2_with fail
  refine (HO0.out _).mono ?_
  rintro e w2 ⟨rfl, hM2⟩
  have hN2 := Made.trans hM1 hM2
  clear hM1 hM2
  go_wp2_with fail
  refine (HO1.out _).mono ?_
  rintro e w3 ⟨rfl, hM3⟩
  have hN3 := Made.trans hN2 hM3
  clear hN2 hM3
  go_wp2_with fail
  refine (HO2.out _).mono ?_
  rintro e w4 ⟨rfl, hM4⟩
  have hN4 := Made.trans hN3 hM4
  clear hN3 hM4
  go_wp2_with fail
  refine (HO3.out _).mono ?_
  rintro e w5 ⟨rfl, hM5⟩
  have hN5 := Made.trans hN4 hM5
  clear hN4 hM5
  go_wp2_with fail
  refine (HO4.out _).mono ?_
  rintro e w6 ⟨rfl, hM6⟩
  have hN6 := Made.trans hN5 hM6
  clear hN5 hM6
  go_wp2_with fail
  generalize hb : w6.heap.size = b
  have HBW := Lib.hid hb
  clear hb
  generalize hb10 : b + 1 + 1 + 1 + 1 + 1 + 1 + 1 + 1 + 1 + 1 = p10
  have HB10 : Hid (b + 10 = p10) := hb10
  generalize hb4 : b + 1 + 1 + 1 + 1 = p4
  have HB4 : Hid (b + 4 = p4) := hb4
  generalize hb3 : b + 1 + 1 + 1 = p3
  have HB3 : Hid (b + 3 = p3) := hb3
  generalize hb2 : b + 1 + 1 = p2
  have HB2 : Hid (b + 2 = p2) := hb2
  generalize hb1 : b + 1 = p1
  have HB1 : Hid (b + 1 = p1) := hb1
  go_loopw [74] (fun i_ wr => ∃ r : Nat, r ≤ 5 ∧ i_ = .int .i64 r ∧ Hid (Lay a0 a1 a2 b0 b1 b2 c0 c1 d0 d1 d2 d3 b wr) ∧ Made w wr) (fun i_ _ => (5 - intOf i_).toNat)
  case atStart =>
    refine ⟨0, by omega, rfl, ?_, Made.trans hN6 (made_eleven w6 _ rfl)⟩
    subst hb1 hb2 hb3 hb4
    show Lay _ _ _ _ _ _ _ _ _ _ _ _ b _
    rw [← HBW.out]
    obtain ⟨h0, h1, h2, h3, h4, h5, h6, h7, h8, h9, h10⟩ := eleven w6 _ _ _ _ _ _ _ _ _ _ _ _ rfl
    exact ⟨h0, h1, h2, h3, h4, h5, h6, h7, h8, h9, h10⟩
  case round =>
    clear hb1 hb2 hb3 hb4 hb10
    obtain ⟨r, hr, rfl, HLr, hmr⟩ := hrel
    by_cases hr5 : r < 5
    · have c6 := lay_outer (x := x) HLr.out hr5
      have HIN := Lib.hid (lay_inner HK.out HLr.out hr5)
      rw [show b + 10 = p10 from HB10.out] at c6
      have HLEN := Lib.hid (widths_len hr5)
      have H63 := Lib.hid (widths_63 hr5)
      obtain ⟨m, hm⟩ : ∃ m, m = (widthsOf r).length := ⟨_, rfl⟩
      rw [← hm] at c6
      have hm4 : m ≤ 4 := by rw [hm]; exact HLEN.out
      have HMm := Lib.hid hm
      clear hm
      generalize b + 5 + r = br at c6 HIN
      have i0 : 0 ≤ (r : Int) := by omega
      have i1 : (r : Int) < 5 := by omega
      go_wp2_with fail
      refine (Widths_c r _).mono ?_
      rw [← HMm.out]
      rintro e w7 ⟨rfl, hw7⟩
      have HW7 := Lib.hid hw7
      clear hw7
      go_wp2_with fail
      have HNUM := Numbers_c x HX.out wr.heap.size (widthsOf r) (by have := HLEN.out; omega) H63.out w7 (by rw [← HW7.out]; simp) (fun k hk => by rw [← HW7.out]; exact alloc_cells wr _ k hk)
      rw [← HMm.out] at HNUM
      refine HNUM.mono ?_
      rintro e w8 ⟨rfl, hg8, hM8⟩
      have hM7 : Made wr w7 := by rw [← HW7.out]; exact (Made.refl wr).alloc (Nat.le_refl _) _
      have hMr8 := Made.trans hM7 hM8
      have HL8 := Lib.hid (HLr.out.later hMr8)
      have HIN8 := Lib.hid ((hMr8.block _ (Array.getElem?_eq_some_iff.1 HIN.out).1).trans HIN.out)
      have HG8 := Lib.hid hg8
      have hm8 := Made.trans hmr hMr8
      have hm50 : m = (WR x r).length := by rw [HMm.out]; exact (nums_len x _).symm
      have HM5 := Lib.hid hm50
      clear hg8 hM8 hM7 hMr8 HLr HIN hmr HNUM hm50
      generalize w7.heap.size = g8 at *
      go_wp2_with fail
      go_loopw [85] (fun j_ wn => ∃ j q : Nat, j ≤ m ∧ j_ = .int .i64 j ∧ wn = w8.drewN q) (fun j_ _ => (m - (intOf j_)).toNat)
      case atStart => exact ⟨0, 0, by omega, rfl, rfl⟩
      case round =>
        obtain ⟨j, q, hj, rfl, hwr⟩ := hrel
        have HWR := Lib.hid hwr
        have hcell : ∀ a, wr.cell? a = w8.cell? a := fun a => by rw [hwr]; rfl
        by_cases hjm : j < m
        · clear hwr
          have hjl : j < (WR x r).length := by have := HM5.out; omega
          have cx : wr.cell? ⟨br, j, none⟩ = some (.int .i64 (((WR x r)[j] : Nat) : Int)) := by
            rw [hcell, cell_of_row _ _ _ _ _ _ HIN8.out]; exact ints_at hjl
          have cy : wr.cell? ⟨g8, j, none⟩ = some (.int .i64 (((WR x r)[j] : Nat) : Int)) := by
            rw [hcell, cell_of_row _ _ _ _ _ _ HG8.out]; exact ints_at hjl
          clear hcell
          generalize (WR x r)[j] = v at cx cy
          have j0 : 0 ≤ (j : Int) := by omega
          have j1 : (j : Int) < (m : Int) := by omega
          go_wp2_with fail
          go_quiet (fail)
          go_wp2_with fail
          go_roundw
          case rel => obtain ⟨q2, hq2⟩ := drawn1 HWR.out nq; exact ⟨j + 1, q2, by omega, by go_num, hq2⟩
          case measure => simp [intOf]; omega
        · obtain rfl : j = m := by omega
          subst hwr
          clear hcell
          have HL9 : Hid (Lay a0 a1 a2 b0 b1 b2 c0 c1 d0 d1 d2 d3 b (w8.drewN q)) := HL8.out.later (Made.drewN _ _)
          have hm9 : Made w (w8.drewN q) := below_drewN hm8 _
          go_wp2_with fail
          go_roundw
          case rel => exact ⟨r + 1, by omega, by go_num, HL9, hm9⟩
          case measure => simp [intOf]; omega
    · obtain rfl : r = 5 := by omega
      have L0 := Lib.hid HLr.out
      clear HLr
      have G0 : wr.heap[b]? = some (.cells #[.int .i64 (a0 : Int), .int .i64 (a1 : Int), .int .i64 (a2 : Int)] 28 (0, 0)) := by
        exact L0.out.s0
      go_wp2_with (refine wpList_load_row rfl 28 (.tmp 3) rfl b (by simp [Act.eval, Act.put]) 28 #[.int .i64 (a0 : Int), .int .i64 (a1 : Int), .int .i64 (a2 : Int)] (0, 0) _ G0 Try.underlying28 rfl Z0.out ?_)
      refine (HW0.out _).mono ?_
      rintro e v1 ⟨rfl, hV1⟩
      have L1 := Lib.hid (L0.out.later hV1)
      have hmr1 := Made.trans hmr hV1
      clear hV1 L0 G0 hmr
      have G1 : v1.heap[p1]? = some (.cells #[.int .i64 (b0 : Int), .int .i64 (b1 : Int), .int .i64 (b2 : Int)] 31 (0, 0)) := by
        rw [← HB1.out]; exact L1.out.s1
      go_wp2_with (refine wpList_load_row rfl 31 (.tmp 4) rfl p1 (by simp [Act.eval, Act.put]) 31 #[.int .i64 (b0 : Int), .int .i64 (b1 : Int), .int .i64 (b2 : Int)] (0, 0) _ G1 Try.underlying31 rfl Z1.out ?_)
      refine (HW1.out _).mono ?_
      rintro e v2 ⟨rfl, hV2⟩
      have L2 := Lib.hid (L1.out.later hV2)
      have hmr2 := Made.trans hmr1 hV2
      clear hV2 L1 G1 hmr1
      have G2 : v2.heap[p2]? = some (.cells #[.int .i64 (b0 : Int), .int .i64 (b1 : Int), .int .i64 (b2 : Int)] 38 (0, 0)) := by
        rw [← HB2.out]; exact L2.out.s2
      go_wp2_with (refine wpList_load_row rfl 38 (.tmp 5) rfl p2 (by simp [Act.eval, Act.put]) 38 #[.int .i64 (b0 : Int), .int .i64 (b1 : Int), .int .i64 (b2 : Int)] (0, 0) _ G2 Try.underlying38 rfl Z2.out ?_)
      refine (HW2.out _).mono ?_
      rintro e v3 ⟨rfl, hV3⟩
      have L3 := Lib.hid (L2.out.later hV3)
      have hmr3 := Made.trans hmr2 hV3
      clear hV3 L2 G2 hmr2
      have G3 : v3.heap[p3]? = some (.cells #[.int .i64 (c0 : Int), .int .i64 ((c1 : Int) - 1)] 35 (0, 0)) := by
        rw [← HB3.out]; exact L3.out.s3
      go_wp2_with (refine wpList_load_row rfl 35 (.tmp 6) rfl p3 (by simp [Act.eval, Act.put]) 35 #[.int .i64 (c0 : Int), .int .i64 ((c1 : Int) - 1)] (0, 0) _ G3 Try.underlying35 rfl Z3.out ?_)
      refine (HW3.out _).mono ?_
      rintro e v4 ⟨rfl, hV4⟩
      have L4 := Lib.hid (L3.out.later hV4)
      have hmr4 := Made.trans hmr3 hV4
      clear hV4 L3 G3 hmr3
      have G4 : v4.heap[p4]? = some (.cells #[.int .i64 (d0 : Int), .int .i64 (d1 : Int), .int .i64 (d2 : Int), .int .i64 (d3 : Int)] 33 (0, 0)) := by
        rw [← HB4.out]; exact L4.out.s4
      go_wp2_with (refine wpList_load_row rfl 33 (.tmp 7) rfl p4 (by simp [Act.eval, Act.put]) 33 #[.int .i64 (d0 : Int), .int .i64 (d1 : Int), .int .i64 (d2 : Int), .int .i64 (d3 : Int)] (0, 0) _ G4 Try.underlying33 rfl Z4.out ?_)
      refine (HW4.out _).mono ?_
      rintro e v5 ⟨rfl, hV5⟩
      have L5 := Lib.hid (L4.out.later hV5)
      have hmr5 := Made.trans hmr4 hV5
      clear hV5 L4 G4 hmr4
      go_wp2_with fail
      go_ret
      exact ⟨rfl, hmr5⟩

theorem spreads (x : Int) (w : World) (h0 : (Lit.int .u64 x).wf = true) : Calls Try.prog 12 #[.int .u64 x] w fun e w' => e = .returned (.bool true) ∧ Made w w' := by
  obtain ⟨x, rfl, hx⟩ := u64_of h0
  clear h0
  have g := fun s n (h : n ≤ 32) => getN_i64 x s n h
  have P : ∀ r, (widthsOf r).sum = 64 → packed (pairs (widthsOf r) (WR x r)) = (x, 0) := fun r hs => packed_nums x _ hs hx
  have P0 := P 0 rfl
  have P1 := P 1 rfl
  have P3 := P 3 rfl
  have P4 := P 4 rfl
  simp only [WR, nums, widthsOf, pairs, List.zip_cons_cons, List.zip_nil_right, List.map_cons, List.map_nil, List.sum_cons, List.sum_nil, Nat.add_zero, Nat.reduceAdd] at P0 P1 P3 P4
  refine spreads_any x hx (getN x 32 32) (getN x 2 30) (getN x 0 2) (getN x 32 32) (getN x 16 16) (getN x 0 16) (getN x 32 32) (getN x 0 32) (getN x 38 26) (getN x 33 5) (getN x 30 3) (getN x 0 30) rfl rfl rfl rfl rfl (by have := (g 0 32 (by omega)).2; omega)
    (fun w => StateOf_c x hx w) (fun w => HomeOf_c x hx w) (fun w => KeyOf_c x hx w) (fun w => HeadOf_c x hx w) (fun w => ConnOf_c x hx w) ?_ ?_ ?_ ?_ ?_ w
  · intro w
    have := StateWord_c _ _ _ (g 32 32 (by omega)).1 (g 2 30 (by omega)).1 (g 0 2 (by omega)).1 w
    rw [P0] at this
    exact this
  · intro w
    have := HomeWord_c _ _ _ (g 32 32 (by omega)).1 (g 16 16 (by omega)).1 (g 0 16 (by omega)).1 w
    rw [P1] at this
    exact this
  · intro w
    have := KeyWord_c _ _ _ (g 32 32 (by omega)).1 (g 16 16 (by omega)).1 (g 0 16 (by omega)).1 w
    rw [P1] at this
    exact this
  · intro w
    have hb := g 0 32 (by omega)
    have hi : I64 (((getN x 0 32 : Nat) : Int) - 1) := by unfold I64; omega
    have := HeadWord_c _ _ (g 32 32 (by omega)).1 hi w
    have e : headPacked ((getN x 32 32 : Nat) : Int) (((getN x 0 32 : Nat) : Int) - 1) = (x, 0) := by
      unfold headPacked
      rw [if_neg (by omega), Int.sub_add_cancel]
      exact P3
    rw [e] at this
    exact this
  · intro w
    have := ConnWord_c _ _ _ _ (g 38 26 (by omega)).1 (g 33 5 (by omega)).1 (g 30 3 (by omega)).1 (g 0 30 (by omega)).1 w
    rw [P4] at this
    exact this
end Go.Proofs.Ytdmjokkjhbdnnaa.Law1
