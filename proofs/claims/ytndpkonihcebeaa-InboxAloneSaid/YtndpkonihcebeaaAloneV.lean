/- InboxAlone: by one task alone, tickets come out the last one first; those that are dead and first are freed by the next Put: walked. -/
import Derived.Test.YtndpkonihcebeaaAlone9
import Derived.Test.YtndpkonihcebeaaOpenP
import Derived.Deep.DeepCutAuto
namespace Go.Proofs.Ytndpkonihcebeaa.Kod.Nine
open Go.RowKit Go.Proofs.Ytndpkonihcebeaa Go.Proofs.Ytndpkonihcebeaa.Cell Go.Proofs.Ytndpkonihcebeaa.Wd
set_option linter.unusedVariables false
set_option linter.unusedSimpArgs false

theorem bool_info9 : (Try.prog.info? 4).map (fun i => (i.zero, i.size, i.bytes)) = some (some (.bool false), 1, 1) := by kernel_rfl
theorem made_bools9 (n : Nat) : madeCells (Value.bool false).cells n = (List.replicate n (Value.bool false)).toArray := by
  unfold madeCells
  apply Array.ext
  · simp
  · intro k h1 h2
    simp [Value.cells, Nat.mod_one]
theorem make_bools9 (n : Nat) (h : n ≤ 1048576) (w : World) : (Instr.makeSlice 51 (.int .i64 (n : Int)) (.int .i64 (n : Int))).run Try.prog w =
    .ok (.slice (some ⟨w.heap.size, 0, none⟩) n n) (w.alloc (.cells (List.replicate n (Value.bool false)).toArray 4)) := by
  obtain ⟨i, hi, hq⟩ := Option.map_eq_some_iff.1 bool_info9
  simp only [Prod.mk.injEq] at hq
  obtain ⟨hz, hs, hb⟩ := hq
  have := run_makeSlice (P := Try.prog) w 51 4 i _ (by kernel_rfl) hi hz .i64 .i64 n n (by omega) (by omega) (by rw [hs]; simp; omega) (by rw [hb]; omega) (by omega)
  rw [this, hs]
  simp only [Int.toNat_natCast, Nat.mul_one]
  rw [made_bools9]
set_option maxRecDepth 100000 in
set_option maxHeartbeats 400000 in
theorem alone9_far (A : Option Addr) (n c : Nat) (hnb : (n : Int) ≤ 9223372036854775807) (h : (60 : Int) < (n : Int)) (w : World) :
    Calls Try.prog 5 #[.slice A n c] w fun e w' => e = .returned (.bool true) ∧ Made w w' := by
  go_enter Try.func5, Try.ntmps5
  go_wp2_with fail
  refine (speaks_c _).mono ?_
  rintro e w0 ⟨rfl, hm0⟩
  have HM0 := Lib.hid hm0
  clear hm0
  go_wp2_with fail
  refine (speaks_c _).mono ?_
  rintro e w1 ⟨rfl, hm1⟩
  have HM1 := Lib.hid (Made.trans HM0.out hm1)
  clear hm1
  go_wp2_with fail
  go_ret
  exact ⟨rfl, HM1.out⟩
set_option maxRecDepth 100000 in
set_option maxHeartbeats 4000000 in
theorem alone9_near (n c : Nat) (A : Option Addr) (l : List (Int × Int)) (hn60 : n ≤ 60) (hn : Hid (n = l.length)) (w : World) (hl : Hid (∀ (wr : World), Below w.heap.size w wr → ∀ (i : Nat) (K T : Int), l[i]? = some (K, T) → ∃ d : Addr, A = some d ∧ wr.cell? (d.add (i * 2)) = some (.int .i64 K) ∧ wr.cell? ((d.add (i * 2)).add 1) = some (.int .i64 T))) (hw : Hid (∀ z ∈ l, (-9223372036854775808 ≤ z.1 ∧ z.1 ≤ 9223372036854775807) ∧ (-9223372036854775808 ≤ z.2 ∧ z.2 ≤ 9223372036854775807))) :
    Calls Try.prog 5 #[.slice A n c] w fun e w' => e = .returned (.bool true) ∧ Made w w' := by
  have HFR := fun w => Lib.hid (fresh_c 20 (by omega) w)
  have i60 : (n : Int) ≤ 60 := by omega
  go_enter Try.func5, Try.ntmps5
  go_wp2_with fail
  refine (speaks_c _).mono ?_
  rintro e w0 ⟨rfl, hm0⟩
  have HM0 := Lib.hid hm0
  clear hm0
  go_wp2_with fail
  refine (HFR _).out.mono ?_
  rintro e w1 ⟨a, b, ba, bn, rfl, hA, l1, l2, l3, l4, n1, n2, n3, n4, hba, hbn, hm1⟩
  have hl0 := HM0.out.size
  have HAL0 := Lib.hid (Alo9.begin (B := w.heap.size) (w := w) hA (by omega) (by omega) n1 n2 n3 n4 hba hbn (Made.trans HM0.out hm1) (Made.trans HM0.out hm1).size)
  have hmk : ∀ w, (Instr.makeSlice 51 (.int .i64 20) (.int .i64 20)).run Try.prog w = .ok (.slice (some ⟨w.heap.size, 0, none⟩) 20 20) (w.alloc (.cells (List.replicate 20 (Value.bool false)).toArray 4)) := fun w => make_bools9 20 (by omega) w
  clear hA l1 l2 l3 l4 n1 n2 n3 n4 hba hbn hm1 HFR HM0 hl0
  generalize (List.replicate 20 (Value.bool false)).toArray = R20 at *
  unfold bxf at HAL0
  go_wp2_with fail
  clear hmk
  go_loopw [5, 6, 8, 31] (fun mv fv nv iv wr => ∃ (r nx : Nat) (dead : Int → Bool) (bl fl : List Int) (Am : Option Addr) (nm cm : Nat) (Af : Option Addr) (nf cf : Nat), mv = .slice Am nm cm ∧ fv = .slice Af nf cf ∧ nv = .int .i64 (nx : Int) ∧ iv = .int .i64 (r : Int) ∧ r ≤ n ∧ Hid (Alo9 a b ba bn w.heap.size w1.heap.size (w1.heap.size + 1) r dead nx bl fl (.slice Am nm cm) (.slice Af nf cf) w wr)) (fun _ _ _ iv _ => (n - intOf iv).toNat)
  case atStart => exact ⟨0, 0, _, [], [], none, 0, 0, none, 0, 0, rfl, rfl, rfl, rfl, by omega, HAL0⟩
  case round =>
    clear HAL0
    obtain ⟨r, nx, dead, bl, fl, Am, nm, cm, Af, nf, cf, rfl, rfl, rfl, rfl, hr, HAL⟩ := hrel
    by_cases hlt : r < n
    · obtain ⟨⟨K, T⟩, hx⟩ : ∃ x, l[r]? = some x := ⟨_, List.getElem?_eq_getElem (by have := hn.out; omega)⟩
      obtain ⟨d, rfl, e0, e1'⟩ := hl.out wr HAL.out.bel r K T hx
      have e1 : wr.cell? ⟨(d.add (r * 2)).block, (d.add (r * 2)).off + 1, none⟩ = some (.int .i64 T) := e1'
      clear e1'
      obtain ⟨⟨b0, b1⟩, b2, b3⟩ := hw.out _ (List.mem_of_getElem? hx)
      simp only at b0 b1 b2 b3
      have i0 : (0 : Int) ≤ (r : Int) := by omega
      have i1 : (r : Int) < (n : Int) := by omega
      have HM5 : Hid (Made wr (wr.alloc (.cells #[.int .i64 K, .int .i64 T] 53))) := (Made.refl _).alloc (Nat.le_refl _) _
      have HAL5 := Lib.hid (HAL.out.later HM5.out)
      obtain ⟨hd1, hd2, hd3, hd4, hd5, hd6, hd7, hd8, hd9⟩ := HAL.out.dims
      have n0 : (0 : Int) ≤ (nx : Int) := by omega
      have HAL0 := Lib.hid HAL.out
      clear hx HAL HM5 hd1 hd2 hd6 hd7 hd8 hd9
      by_cases hK0 : K = 0
      · subst hK0
        clear b0 b1 b2 b3
        by_cases hnx : nx < 20
        · have n1 : (nx : Int) < 20 := by omega
          have HPT := Lib.hid (HAL5.out.put (by omega) hnx)
          clear HAL5 HAL0
          go_wp2_with fail
          refine HPT.out.mono ?_
          rintro e w6 ⟨A1, m1, c1, A2, m2, c2, rfl, ⟨s0, s1, s2, s3, s4, s5, s6⟩, HPU⟩
          unfold bxf at HPU
          clear HPT e0 e1
          go_wp2_with fail
          refine (HPU.out _).mono ?_
          rintro e w7 ⟨f7, c7, rfl, HNW⟩
          clear HPU s0 s1 s2 s3 s4 s5 s6
          go_wp2_with fail
          refine HNW.out.mono ?_
          rintro e w8 ⟨tb, rfl, HFN⟩
          clear HNW
          go_wp2_with fail
          refine HFN.out.mono ?_
          rintro e w9 ⟨rfl, bl', fl', HALX⟩
          clear HFN
          obtain ⟨⟨s0, s1, s2, s3, s4, s5, s6⟩, HLS⟩ := HALX.out.lists
          unfold bxf at HLS
          clear HALX
          go_wp2_with fail
          refine HLS.out.mono ?_
          rintro e w18 ⟨A18, c18, rfl, HSM⟩
          clear HLS s0 s1 s2 s3 s4 s5 s6
          go_wp2_with fail
          refine HSM.out.mono ?_
          rintro e w19 ⟨rfl, ⟨t0, t1, t2, t3, t4, t5, t6⟩, HL2⟩
          clear HSM
          go_wp2_with fail
          refine HL2.out.mono ?_
          rintro e w20 ⟨A20, c20, rfl, HS2⟩
          clear HL2 t0 t1 t2 t3 t4 t5 t6
          go_wp2_with fail
          refine HS2.out.mono ?_
          rintro e w21 ⟨rfl, HALF⟩
          clear HS2
          go_wp2_with fail
          go_roundw
          case rel => exact ⟨r + 1, _, _, _, _, _, _, _, _, _, _, rfl, rfl, by first | rfl | go_num, by go_num, by omega, HALF⟩
          case measure => simp [intOf]; omega
        · have n1 : ¬ (nx : Int) < 20 := by omega
          have HALX := Lib.hid HAL5.out.skip
          clear HAL5 HAL0
          obtain ⟨⟨s0, s1, s2, s3, s4, s5, s6⟩, HLS⟩ := HALX.out.lists
          unfold bxf at HLS
          clear HALX
          go_wp2_with fail
          refine HLS.out.mono ?_
          rintro e w18 ⟨A18, c18, rfl, HSM⟩
          clear HLS s0 s1 s2 s3 s4 s5 s6
          go_wp2_with fail
          refine HSM.out.mono ?_
          rintro e w19 ⟨rfl, ⟨t0, t1, t2, t3, t4, t5, t6⟩, HL2⟩
          clear HSM
          go_wp2_with fail
          refine HL2.out.mono ?_
          rintro e w20 ⟨A20, c20, rfl, HS2⟩
          clear HL2 t0 t1 t2 t3 t4 t5 t6
          go_wp2_with fail
          refine HS2.out.mono ?_
          rintro e w21 ⟨rfl, HALF⟩
          clear HS2
          go_wp2_with fail
          go_roundw
          case rel => exact ⟨r + 1, _, _, _, _, _, _, _, _, _, _, rfl, rfl, by first | rfl | go_num, by go_num, by omega, HALF⟩
          case measure => simp [intOf]; omega
      · have z0 : (K == 0) = false := by simpa using hK0
        by_cases hK1 : K = 1
        · subst hK1
          obtain ⟨⟨s0, s1, s2, s3, s4, s5, s6⟩, HDR⟩ := HAL5.out.drain (by omega) (W := (wr.alloc (.cells #[.int .i64 1, .int .i64 T] 53)).alloc (.cells #[.slice none 0 0, .slice none 0 0] 36)) rfl
          simp only [World.size_alloc] at HDR
          unfold bxf at HDR
          clear HAL5 HAL0 b0 b1 b2 b3 z0
          go_wp2_with fail
          refine HDR.out.mono ?_
          rintro e w6 ⟨f6, c6, rfl, HNW⟩
          clear HDR s0 s1 s2 s3 s4 s5 s6 e0 e1
          go_wp2_with fail
          refine HNW.out.mono ?_
          rintro e w7 ⟨tb, rfl, HFN⟩
          clear HNW
          go_wp2_with fail
          refine HFN.out.mono ?_
          rintro e w8 ⟨rfl, A8, c8, cg, HSA⟩
          clear HFN
          go_wp2_with fail
          refine HSA.out.mono ?_
          rintro e w9 ⟨rfl, HALX⟩
          clear HSA cg
          obtain ⟨⟨s0, s1, s2, s3, s4, s5, s6⟩, HLS⟩ := HALX.out.lists
          unfold bxf at HLS
          clear HALX
          go_wp2_with fail
          refine HLS.out.mono ?_
          rintro e w18 ⟨A18, c18, rfl, HSM⟩
          clear HLS s0 s1 s2 s3 s4 s5 s6
          go_wp2_with fail
          refine HSM.out.mono ?_
          rintro e w19 ⟨rfl, ⟨t0, t1, t2, t3, t4, t5, t6⟩, HL2⟩
          clear HSM
          go_wp2_with fail
          refine HL2.out.mono ?_
          rintro e w20 ⟨A20, c20, rfl, HS2⟩
          clear HL2 t0 t1 t2 t3 t4 t5 t6
          go_wp2_with fail
          refine HS2.out.mono ?_
          rintro e w21 ⟨rfl, HALF⟩
          clear HS2
          go_wp2_with fail
          go_roundw
          case rel => exact ⟨r + 1, _, _, _, _, _, _, _, _, _, _, rfl, rfl, by first | rfl | go_num, by go_num, by omega, HALF⟩
          case measure => simp [intOf]; omega
        · have z1 : (K == 1) = false := by simpa using hK1
          by_cases hT : 0 ≤ T ∧ T < 20
          · obtain ⟨k, rfl⟩ : ∃ k : Nat, T = (k : Int) := ⟨T.toNat, by omega⟩
            obtain ⟨WK, hWK⟩ : ∃ WK, WK = (wr.setCell ⟨w1.heap.size + 1, k, none⟩ (.bool true)).alloc (.cells #[.int .i64 K, .int .i64 (k : Int)] 53) := ⟨_, rfl⟩
            obtain ⟨kc, kz, ⟨s0, s1, s2, s3, s4, s5, s6⟩, HST⟩ := HAL0.out.kill (by omega) (T := k) (by omega) hWK
            have kt : WK.cell? ⟨wr.heap.size, 1, none⟩ = some (.int .i64 (k : Int)) := by
              have hsz : (wr.setCell ⟨w1.heap.size + 1, k, none⟩ (.bool true)).heap.size = wr.heap.size := by simp [World.setCell]
              rw [hWK, ← hsz, cell_of_row _ _ _ _ _ _ (heap_alloc_new _ _)]
              rfl
            have k0 : (0 : Int) ≤ (k : Int) := hT.1
            have k1 : (k : Int) < 20 := hT.2
            have HWK := Lib.hid hWK
            clear hWK HAL5 HAL0 hT
            go_upto_region 15 with fail
            rw [← HWK.out]
            clear HWK kc kz e0 e1
            go_wp2_with fail
            refine HST.out.mono ?_
            rintro e w6 ⟨⟨bb, rfl⟩, HALX⟩
            clear HST s0 s1 s2 s3 s4 s5 s6 kt
            obtain ⟨⟨s0, s1, s2, s3, s4, s5, s6⟩, HLS⟩ := HALX.out.lists
            unfold bxf at HLS
            clear HALX
            go_wp2_with fail
            refine HLS.out.mono ?_
            rintro e w18 ⟨A18, c18, rfl, HSM⟩
            clear HLS s0 s1 s2 s3 s4 s5 s6
            go_wp2_with fail
            refine HSM.out.mono ?_
            rintro e w19 ⟨rfl, ⟨t0, t1, t2, t3, t4, t5, t6⟩, HL2⟩
            clear HSM
            go_wp2_with fail
            refine HL2.out.mono ?_
            rintro e w20 ⟨A20, c20, rfl, HS2⟩
            clear HL2 t0 t1 t2 t3 t4 t5 t6
            go_wp2_with fail
            refine HS2.out.mono ?_
            rintro e w21 ⟨rfl, HALF⟩
            clear HS2
            go_wp2_with fail
            go_roundw
            case rel => exact ⟨r + 1, _, _, _, _, _, _, _, _, _, _, rfl, rfl, by first | rfl | go_num, by go_num, by omega, HALF⟩
            case measure => simp [intOf]; omega
          · have HALX := Lib.hid HAL5.out.skip
            clear HAL5 HAL0
            by_cases hT0 : 0 ≤ T
            · have hT1 : ¬ T < 20 := by omega
              clear hT
              obtain ⟨⟨s0, s1, s2, s3, s4, s5, s6⟩, HLS⟩ := HALX.out.lists
              unfold bxf at HLS
              clear HALX
              go_wp2_with fail
              refine HLS.out.mono ?_
              rintro e w18 ⟨A18, c18, rfl, HSM⟩
              clear HLS s0 s1 s2 s3 s4 s5 s6
              go_wp2_with fail
              refine HSM.out.mono ?_
              rintro e w19 ⟨rfl, ⟨t0, t1, t2, t3, t4, t5, t6⟩, HL2⟩
              clear HSM
              go_wp2_with fail
              refine HL2.out.mono ?_
              rintro e w20 ⟨A20, c20, rfl, HS2⟩
              clear HL2 t0 t1 t2 t3 t4 t5 t6
              go_wp2_with fail
              refine HS2.out.mono ?_
              rintro e w21 ⟨rfl, HALF⟩
              clear HS2
              go_wp2_with fail
              go_roundw
              case rel => exact ⟨r + 1, _, _, _, _, _, _, _, _, _, _, rfl, rfl, by first | rfl | go_num, by go_num, by omega, HALF⟩
              case measure => simp [intOf]; omega
            · clear hT
              obtain ⟨⟨s0, s1, s2, s3, s4, s5, s6⟩, HLS⟩ := HALX.out.lists
              unfold bxf at HLS
              clear HALX
              go_wp2_with fail
              refine HLS.out.mono ?_
              rintro e w18 ⟨A18, c18, rfl, HSM⟩
              clear HLS s0 s1 s2 s3 s4 s5 s6
              go_wp2_with fail
              refine HSM.out.mono ?_
              rintro e w19 ⟨rfl, ⟨t0, t1, t2, t3, t4, t5, t6⟩, HL2⟩
              clear HSM
              go_wp2_with fail
              refine HL2.out.mono ?_
              rintro e w20 ⟨A20, c20, rfl, HS2⟩
              clear HL2 t0 t1 t2 t3 t4 t5 t6
              go_wp2_with fail
              refine HS2.out.mono ?_
              rintro e w21 ⟨rfl, HALF⟩
              clear HS2
              go_wp2_with fail
              go_roundw
              case rel => exact ⟨r + 1, _, _, _, _, _, _, _, _, _, _, rfl, rfl, by first | rfl | go_num, by go_num, by omega, HALF⟩
              case measure => simp [intOf]; omega
    · obtain rfl : r = n := by omega
      have HF := Lib.hid HAL.out.bel
      clear HAL
      go_wp2_with fail
      go_ret
      exact ⟨rfl, HF.out⟩
theorem alone9 (v : Value) (l : List (Int × Int)) (w : World) (hv : SlII w v l) : Calls Try.prog 5 #[v] w fun e w' => e = .returned (.bool true) ∧ Made w w' := by
  obtain ⟨h0, h1⟩ := hv
  have h2 := h0
  obtain ⟨A, c, rfl, k1, k2, _⟩ := h0
  simp only [List.length_map] at h2 k1 ⊢
  unfold maxLen at k2
  by_cases hm : 60 < l.length
  · exact alone9_far A _ _ (by omega) (by omega) w
  · refine alone9_near _ _ A l (by omega) (Lib.hid rfl) w (fun wr hb i K T hi => ?_) h1
    obtain ⟨d, e1, e2, e3⟩ := h2.later hb i (.int .i64 K, .int .i64 T) (by rw [List.getElem?_map, hi]; rfl)
    exact ⟨d, e1, e2, e3⟩
end Go.Proofs.Ytndpkonihcebeaa.Kod.Nine
