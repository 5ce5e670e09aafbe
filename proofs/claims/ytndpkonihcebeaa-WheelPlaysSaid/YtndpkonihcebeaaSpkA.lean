/- Package knelllaw10, walked: speaks. -/
import Derived.Test.YtndpkonihcebeaaLw10
namespace Go.Proofs.Ytndpkonihcebeaa.Whl
open Go.RowKit Go.Proofs.Ytndpkonihcebeaa Go.Proofs.Ytndpkonihcebeaa.Cell Go.Proofs.Ytndpkonihcebeaa.Seq Go.Proofs.Ytndpkonihcebeaa.Num Go.Proofs.Ytndpkonihcebeaa.SetN Go.Proofs.Ytndpkonihcebeaa.Dig Go.Proofs.Ytndpkonihcebeaa.Bits
set_option linter.unusedVariables false
set_option linter.unusedSimpArgs false

set_option maxRecDepth 100000 in
set_option maxHeartbeats 2000000 in
/-- Two rows that are alike. -/
theorem Same_q (xs : List Int) (A B : Option Addr) (N c1 c2 : Nat) (hN : N = xs.length) (w : World) (hA : ∀ k (h : k < xs.length), ∃ d, A = some d ∧ w.cell? (d.add k) = some (.int .i64 xs[k])) (hB : ∀ k (h : k < xs.length), ∃ d, B = some d ∧ w.cell? (d.add k) = some (.int .i64 xs[k])) (hn : N ≤ 100000) :
    Calls Try.prog 22 #[.slice A N c1, .slice B N c2] w fun e w' => e = .returned (.bool true) ∧ ∃ q, w' = w.drewN q := by
  have HA := Lib.hid hA
  have HB := Lib.hid hB
  have HN := Lib.hid hN
  clear hA hB hN
  go_enter Try.func22, Try.ntmps22
  go_wp2_with fail
  go_loopw [5] (fun i wr => ∃ k q : Nat, k ≤ N ∧ i = .int .i64 k ∧ wr = w.drewN q) (fun i _ => (N - intOf i).toNat)
  case atStart => exact ⟨0, 0, by omega, rfl, rfl⟩
  case round =>
    obtain ⟨k, q, hk, rfl, hwr⟩ := hrel
    have HWR := Lib.hid hwr
    have hcell : ∀ a, wr.cell? a = w.cell? a := fun a => by rw [hwr]; rfl
    by_cases hkN : k < N
    · have hkl : k < xs.length := by have := HN.out; omega
      obtain ⟨a, rfl, ca⟩ := HA.out k hkl
      obtain ⟨b, rfl, cb⟩ := HB.out k hkl
      rw [← hcell] at ca cb
      generalize xs[k] = x at ca cb
      have k0 : 0 ≤ (k : Int) := by omega
      have k1 : (k : Int) < (N : Int) := by omega
      clear hcell hwr
      go_wp2_with fail
      go_quiet (fail)
      go_wp2_with fail
      go_roundw
      case rel => obtain ⟨q2, hq2⟩ : ∃ m, wr.drewN nq = w.drewN m := ⟨q + nq, by rw [HWR.out, World.drewN_drewN]⟩; exact ⟨k + 1, q2, by omega, by go_num, hq2⟩
      case measure => simp [intOf]; omega
    · obtain rfl : N = k := by omega
      subst hwr
      clear hcell
      go_wp2_with fail
      go_ret
      exact ⟨rfl, q, rfl⟩
theorem Same_c (xs : List Int) (A B : Option Addr) (N c1 c2 : Nat) (hN : N = xs.length) (w : World) (hA : ∀ k (h : k < xs.length), ∃ d, A = some d ∧ w.cell? (d.add k) = some (.int .i64 xs[k])) (hB : ∀ k (h : k < xs.length), ∃ d, B = some d ∧ w.cell? (d.add k) = some (.int .i64 xs[k])) (hn : N ≤ 100000) :
    Calls Try.prog 22 #[.slice A N c1, .slice B N c2] w fun e w' => e = .returned (.bool true) ∧ Made w w' := (Same_q xs A B N c1 c2 hN w hA hB hn).mono fun e w' ⟨h, q, hq⟩ => ⟨h, by rw [hq]; exact Made.drewN _ _⟩

theorem top1 : topOf 27 30 2 = 1 := by
  have h : Num.Top (wd 2) (tm 27) (tm 30) 2 := ⟨by decide, by decide⟩
  rw [topOf_eq h]; rfl
theorem place1 : placeOf 27 30 4 2 = (1, 3) := by
  unfold placeOf
  rw [if_neg (by decide), top1, if_pos (by decide)]
  decide
theorem placed1 : Placed 27 30 4 2 4 1 3 := ⟨place1, by omega, by omega⟩
theorem top2 : topOf 27 28 2 = 1 := by
  have h : Num.Top (wd 2) (tm 27) (tm 28) 2 := ⟨by decide, by decide⟩
  rw [topOf_eq h]; rfl
theorem cr_0 : crOf 27 28 2 0 = some (0, 3) := by
  have e : crossOf 27 28 ((0 : Nat) : Int) ((2 : Nat) : Int) = (0, ((2 ^ wd 2 : Nat) : Int) - 1, true) := cross_all (by decide) (by show _ < topOf 27 28 2; rw [top2]; decide)
  unfold crOf
  rw [e]; decide
theorem cr_1 : crOf 27 28 2 1 = some (3, 3) := by
  have e : crossOf 27 28 ((1 : Nat) : Int) ((2 : Nat) : Int) = ((dig 27 ((1 : Nat) : Int) 2 : Int) + 1, (dig 28 ((1 : Nat) : Int) 2 : Int), true) := cross_edge (by decide) (by show _ = topOf 27 28 2; rw [top2]; decide)
  unfold crOf
  rw [e]; decide
theorem cr_2 : crOf 27 28 2 2 = none := by
  have e : crossOf 27 28 ((2 : Nat) : Int) ((2 : Nat) : Int) = (0, 0, false) := cross_no (Or.inr (by show topOf 27 28 2 < _; rw [top2]; decide))
  unfold crOf
  rw [e]; decide
def ch1 : Nat → Nat → List Nat := insCh 0 1 3 (fun _ _ => [])
def xsp : List Int := insX 4 4 0 1 3 (List.replicate 22 0)
theorem peek1 : (peekR 27 4 2 xsp 4 0).1 = 28 := by decide
theorem list1 : listOf 4 4 ch1 = [(0, 1, 3)] := by decide
theorem pass1 : passG (crOf 27 28 2) 4 4 0 ch1 = [0] := by
  have e : passG (crOf 27 28 2) 4 4 0 ch1 = ((List.range 4).flatMap fun b => if 0 ≤ b ∧ b ≤ 3 then ch1 0 b else []) ++ (((List.range 4).flatMap fun b => if 3 ≤ b ∧ b ≤ 3 then ch1 1 b else []) ++ []) := by
    simp only [passG, cr_0, show crOf 27 28 2 (0 + 1) = some (3, 3) from cr_1, show crOf 27 28 2 (0 + 1 + 1) = none from cr_2]
  rw [e]; decide
set_option maxRecDepth 100000 in
set_option maxHeartbeats 8000000 in
theorem speaks_c (w : World) : Calls Try.prog 29 #[] w fun e w' => e = .returned (.bool true) ∧ Made w w' := by
  have HF := Lib.hid (fun w => fresh_law 4 2 4 1 (by omega) (by omega) (by omega) (by omega) (by decide) (by omega) (by omega) (by omega) w)
  go_enter Try.func29, Try.ntmps29
  go_wp2_with fail
  refine (HF.out _).mono ?_
  rintro e w1 ⟨a, b, bl, bs, rfl, h1, ha, hb, hm1⟩
  obtain ⟨wb, hwb⟩ : ∃ wb, wb = w1.alloc (.cells #[.pointer (some ⟨a, 0, none⟩), .int .i64 4, .int .i64 2, .int .i64 0, .func (.func 59) #[] #[], .func (.func 60) #[] #[.pointer (some ⟨bl, 0, none⟩), .pointer (some ⟨bs, 0, none⟩)], .func (.func 61) #[] #[.pointer (some ⟨bl, 0, none⟩), .pointer (some ⟨bs, 0, none⟩)]] 71) := ⟨_, rfl⟩
  have mb : Made w1 wb := by rw [hwb]; exact (Made.refl _).alloc (Nat.le_refl _) _
  have hbW : wb.heap[w1.heap.size]? = some (.cells #[.pointer (some ⟨a, 0, none⟩), .int .i64 4, .int .i64 2, .int .i64 0, .func (.func 59) #[] #[], .func (.func 60) #[] #[.pointer (some ⟨bl, 0, none⟩), .pointer (some ⟨bs, 0, none⟩)], .func (.func 61) #[] #[.pointer (some ⟨bl, 0, none⟩), .pointer (some ⟨bs, 0, none⟩)]] 71 (0, 0)) := by rw [hwb]; exact heap_alloc_new _ _
  have h2 := h1.made mb
  have haw := (Array.getElem?_eq_some_iff.1 h1.ar.ha).1
  have hbw := (Array.getElem?_eq_some_iff.1 h1.ar.hb).1
  have hins := insert_c (t := 0) h2.ar h2.env placed1 (by rw [h2.wst.good.len]; omega) h2.wst.wide (by omega) (by omega)
  have HI : Hid (Calls Try.prog 31 #[.agg #[.pointer (some ⟨a, 0, none⟩), .int .i64 4, .int .i64 2, .int .i64 0, .func (.func 59) #[] #[], .func (.func 60) #[] #[.pointer (some ⟨bl, 0, none⟩), .pointer (some ⟨bs, 0, none⟩)], .func (.func 61) #[] #[.pointer (some ⟨bl, 0, none⟩), .pointer (some ⟨bs, 0, none⟩)]], .int .i64 0, .int .i64 27, .int .i64 30] wb fun e w' => e = .returned (.bool true) ∧ ∃ c', Whe a b bl bs 4 4 2 22 w' c' xsp ch1 ∧ c' ≤ 5 ∧ Past a b wb w') := by
    refine hins.mono ?_
    rintro e w' ⟨rfl, hA, hP⟩
    have hbd := insC_bd (L := 4) (S := 4) 1 3 (List.replicate (1 + 4 * (1 + 4) + 1) (0 : Int)) 0
    exact ⟨rfl, _, ⟨hA, h2.env.past hP, h2.wst.ins ⟨by omega, by omega, by omega⟩ (by omega) (by omega) (fun _ _ _ => by simp), h2.sb, h2.b1, h2.b6, by omega⟩, by have := hbd.2; omega, hP⟩
  have HM1 := Lib.hid hm1
  have HMB := Lib.hid mb
  have HBW := Lib.hid hbW
  have HW := Lib.hid hwb
  have HAB := Lib.hid (And.intro ha hb)
  have HLT := Lib.hid (And.intro haw hbw)
  have row : ∀ w' : World, w'.heap[w1.heap.size]? = some (.cells #[.pointer (some ⟨a, 0, none⟩), .int .i64 4, .int .i64 2, .int .i64 0, .func (.func 59) #[] #[], .func (.func 60) #[] #[.pointer (some ⟨bl, 0, none⟩), .pointer (some ⟨bs, 0, none⟩)], .func (.func 61) #[] #[.pointer (some ⟨bl, 0, none⟩), .pointer (some ⟨bs, 0, none⟩)]] 71 (0, 0)) → (w'.cell? ⟨w1.heap.size, 0, none⟩ = some (.pointer (some ⟨a, 0, none⟩)) ∧ w'.cell? ⟨w1.heap.size, 1, none⟩ = some (.int .i64 4) ∧ w'.cell? ⟨w1.heap.size, 2, none⟩ = some (.int .i64 2) ∧ w'.cell? ⟨w1.heap.size, 3, none⟩ = some (.int .i64 0) ∧ w'.cell? ⟨w1.heap.size, 4, none⟩ = some (.func (.func 59) #[] #[]) ∧ w'.cell? ⟨w1.heap.size, 5, none⟩ = some (.func (.func 60) #[] #[.pointer (some ⟨bl, 0, none⟩), .pointer (some ⟨bs, 0, none⟩)]) ∧ w'.cell? ⟨w1.heap.size, 6, none⟩ = some (.func (.func 61) #[] #[.pointer (some ⟨bl, 0, none⟩), .pointer (some ⟨bs, 0, none⟩)])) := fun w' hh => by
    refine ⟨?_, ?_, ?_, ?_, ?_, ?_, ?_⟩ <;> (rw [cell_of_row _ _ _ _ _ _ hh]; rfl)
  have HRW := Lib.hid row
  obtain ⟨c0, c1, c2, c3, c4, c5, c6⟩ := row wb hbW
  clear h1 h2 hins hm1 mb hbW hwb ha hb haw hbw row HF
  go_upto_region 2 with fail
  rw [← HW.out]
  go_wp2_with fail
  refine HI.out.mono ?_
  rintro e w2 ⟨rfl, c2', h2, hc2, hp2⟩
  have HP2 := Lib.hid hp2
  have HH2 := Lib.hid h2
  have hlt : w1.heap.size < wb.heap.size := by rw [HW.out, World.size_alloc]; omega
  have r2 := (hp2.block _ hlt (by have := HLT.out.1; omega) (by have := HLT.out.2; omega)).trans HBW.out
  clear c0 c1 c2 c3 c4 c5 c6 hp2 HI
  obtain ⟨c0, c1, c2, c3, c4, c5, c6⟩ := HRW.out w2 r2
  have HLS := Lib.hid (list_law h2 (by rw [list1]; decide))
  rw [list1] at HLS
  have hlt2 : w1.heap.size < w2.heap.size := Nat.lt_of_lt_of_le hlt HP2.out.size
  have R2 := Lib.hid r2
  clear h2 r2
  go_wp2_with fail
  refine HLS.out.mono ?_
  rintro e w3 ⟨v3, rfl, ho3, hm3, h3⟩
  have HM3 := Lib.hid hm3
  obtain ⟨_, g0 | ⟨g3, cap3, cur3, rfl, hg3, hcell3, hn3, hm3', hs3, ht3⟩⟩ := ho3
  · exact absurd g0.2 (by decide)
  have R3 : Hid (w3.heap[g3]? = some (.cells cur3 99 (0, 0))) := hcell3
  have rr3 := (hm3.block _ hlt2).trans R2.out
  obtain ⟨d0, d1, d2, d3, d4, d5, d6⟩ := HRW.out w3 rr3
  have HPK := Lib.hid (peek_law (now := 27) h3 (by omega) (by omega))
  rw [peek1] at HPK
  have hpw3 := (Array.getElem?_eq_some_iff.1 h3.ar.ha).1
  have RR3 := Lib.hid rr3
  have T3 := Lib.hid ht3
  have hls : ([(0, 1, 3)] : List (Nat × Nat × Nat)).length = 1 := rfl
  rw [hls] at T3 hn3
  clear hcell3 rr3 hm3 h3 c0 c1 c2 c3 c4 c5 c6 hls
  go_wp2_with fail
  refine HPK.out.mono ?_
  rintro e w4 ⟨rfl, c4', h4, hc4, hc4b, hp4⟩
  have hl3 : w1.heap.size < w3.heap.size := Nat.lt_of_lt_of_le hlt2 HM3.out.size
  have hla := HLT.out.1
  have hlb := HLT.out.2
  have hg3l := (Array.getElem?_eq_some_iff.1 R3.out).1
  have hw12 : w1.heap.size ≤ w2.heap.size := by omega
  have R4 := Lib.hid ((hp4.block _ hl3 (by omega) (by omega)).trans RR3.out)
  have RT4 := Lib.hid ((hp4.block _ hg3l (by omega) (by omega)).trans R3.out)
  have hl4 : w1.heap.size < w4.heap.size := Nat.lt_of_lt_of_le hl3 hp4.size
  have HP4 := Lib.hid hp4
  obtain ⟨c0, c1, c2, c3, c4, c5, c6⟩ := HRW.out w4 R4.out
  have HPS := Lib.hid (pass_law (fr := 27) (to' := 28) h4 (by omega) (by rw [pass1]; decide))
  rw [pass1] at HPS
  clear d0 d1 d2 d3 d4 d5 d6 hp4 h4 HPK R3 RR3
  go_wp2_with fail
  refine HPS.out.mono ?_
  rintro e w5 ⟨v5, rfl, c5', xs5, h5, _, _, hp5, ho5⟩
  obtain ⟨_, g0 | ⟨g5, cap5, cur5, rfl, hg5, hcell5, hn5, hm5', hs5, ht5⟩⟩ := ho5
  · exact absurd g0.2 (by decide)
  have hg3l4 := (Array.getElem?_eq_some_iff.1 RT4.out).1
  have r5 := (hp5.block _ hg3l4 (by omega) (by omega)).trans RT4.out
  have tk : ∀ j, j < 3 → cur3[j]? = (tc [(0, 1, 3)])[j]? := fun j hj => by
    have h1 := T3.out
    have h2 : (cur3.toList.take (1 * 3))[j]? = (tc [(0, 1, 3)])[j]? := by rw [h1]
    rw [List.getElem?_take_of_lt (by omega)] at h2
    simpa using h2
  have y0 : w5.cell? ⟨g3, 0, none⟩ = some (.int .i64 0) := by rw [cell_of_row _ _ _ _ _ _ r5, tk 0 (by omega)]; rfl
  have y1 : w5.cell? ⟨g3, 1, none⟩ = some (.int .i64 1) := by rw [cell_of_row _ _ _ _ _ _ r5, tk 1 (by omega)]; rfl
  have y2 : w5.cell? ⟨g3, 2, none⟩ = some (.int .i64 3) := by rw [cell_of_row _ _ _ _ _ _ r5, tk 2 (by omega)]; rfl
  have hl5 : ([0] : List Nat).length = 1 := rfl
  rw [hl5] at ht5 hn5
  have z0 : w5.cell? ⟨g5, 0, none⟩ = some (.int .i64 0) := by
    rw [cell_of_row _ _ _ _ _ _ hcell5]
    have h2 : (cur5.toList.take (1 * 1))[0]? = (vals [0])[0]? := by rw [ht5]
    rw [List.getElem?_take_of_lt (by omega)] at h2
    simpa [vals] using h2
  have hg5l := (Array.getElem?_eq_some_iff.1 hcell5).1
  have m6 : Made w5 (w5.alloc (.cells #[.int .i64 0] 3)) := (Made.refl _).alloc (Nat.le_refl _) _
  have ad0 : ∀ g : Nat, (⟨g, 0, none⟩ : Addr).add 0 = ⟨g, 0, none⟩ := fun g => by unfold Addr.add; split <;> simp_all
  have HSM : Hid (Calls Try.prog 22 #[.slice (some ⟨g5, 0, none⟩) 1 cap5, .slice (some ⟨w5.heap.size, 0, none⟩) 1 1] (w5.alloc (.cells #[.int .i64 0] 3)) fun e w' => e = .returned (.bool true) ∧ Made w w') := by
    refine (Same_c [0] (some ⟨g5, 0, none⟩) (some ⟨w5.heap.size, 0, none⟩) 1 cap5 1 rfl _ (fun k hk => ?_) (fun k hk => ?_) (by omega)).mono ?_
    · obtain rfl : k = 0 := by simp at hk; omega
      refine ⟨_, rfl, ?_⟩
      rw [ad0]
      exact (m6.cell (p := ⟨g5, 0, none⟩) hg5l).trans z0
    · obtain rfl : k = 0 := by simp at hk; omega
      refine ⟨_, rfl, ?_⟩
      rw [ad0, cell_of_row _ _ _ _ _ _ (heap_alloc_new w5 (.cells #[.int .i64 0] 3))]; rfl
    · rintro e w' ⟨rfl, hm⟩
      refine ⟨rfl, ?_⟩
      obtain ⟨ha, hb⟩ := HAB.out
      have x1 : Made w wb := Made.trans HM1.out HMB.out
      have x2 : Made w w2 := Below.trans x1 (HP2.out.below ha hb x1.size)
      have x3 : Made w w3 := Made.trans x2 HM3.out
      have x4 : Made w w4 := Below.trans x3 (HP4.out.below ha hb x3.size)
      have x5 : Made w w5 := Below.trans x4 (hp5.below ha hb x4.size)
      exact Made.trans x5 (Made.trans m6 hm)
  clear h5 hp5 hcell5 ht5 hn5 r5 tk z0 m6 ad0 hl5 hg5l c0 c1 c2 c3 c4 c5 c6 HPS T3 hn3 hm3' hs3 hm5' hs5
  go_wp2_with fail
  refine HSM.out.mono ?_
  rintro e w7 ⟨rfl, hM7⟩
  go_wp2_with fail
  go_ret
  exact ⟨rfl, hM7⟩
end Go.Proofs.Ytndpkonihcebeaa.Whl
