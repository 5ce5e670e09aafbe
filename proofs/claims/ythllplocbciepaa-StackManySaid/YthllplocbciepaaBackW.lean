/- Layer 8, StackBack: the walk. -/
import Derived.Test.YthllplocbciepaaRnd8b
import Derived.Deep.AppendLies
import Derived.OwnWalk
import Derived.Deep.QuietTactic
import Derived.BigQuiet
import Derived.Sort.AtCall
namespace Go.Proofs.Ythllplocbciepaa.Kod.Eight
open Go.RowKit Go.Proofs.Ythllplocbciepaa Go.Proofs.Ythllplocbciepaa.Cell Go.Proofs.Ythllplocbciepaa.Wd
set_option linter.unusedVariables false
set_option linter.unusedSimpArgs false

attribute [local go_sem] run_max_two run_min_two
/-- The memory ahead of the first loop. -/
abbrev V4 (a : Nat) (w : World) : World := ((((w.alloc (.cells #[.pointer (some ⟨a, 0, none⟩), .int .i64 0, .func (.func 76) #[] #[]] 81)).alloc (.cells #[.slice none 0 0, .pointer none, .bool false, .bool true, .bool false] 88)).alloc (.cells #[] 4)).alloc (.cells #[] 4))
theorem V4_start (a : Nat) (w : World) : L1 w.heap.size (V4 a w) (V4 a w) 0 0 (.slice (some ⟨w.heap.size + 1 + 1, 0, none⟩) 0 0) (.slice none 0 0) := by
  refine ⟨Below.refl _ _, by simp only [World.size_alloc]; omega, ?_, ?_, World.ownsRow_nil _ _ _ _, ⟨rfl, Or.inr ⟨_, 0, #[], rfl, Nat.le_refl _, ?_, Nat.le_refl _, by unfold maxLen; omega, rfl, rfl⟩⟩, by simp [Value.ownBlock]⟩
  · rw [heap_alloc_old _ _ (by simp only [World.size_alloc]; omega), heap_alloc_old _ _ (by simp only [World.size_alloc]; omega)]
    simpa only [World.size_alloc] using heap_alloc_new (w.alloc (.cells #[.pointer (some ⟨a, 0, none⟩), .int .i64 0, .func (.func 76) #[] #[]] 81)) (.cells #[.slice none 0 0, .pointer none, .bool false, .bool true, .bool false] 88)
  · simpa only [World.size_alloc] using heap_alloc_new (((w.alloc (.cells #[.pointer (some ⟨a, 0, none⟩), .int .i64 0, .func (.func 76) #[] #[]] 81)).alloc (.cells #[.slice none 0 0, .pointer none, .bool false, .bool true, .bool false] 88)).alloc (.cells #[] 4)) (.cells #[] 4)
  · rw [heap_alloc_old _ _ (by simp only [World.size_alloc]; omega)]
    simpa only [World.size_alloc] using heap_alloc_new ((w.alloc (.cells #[.pointer (some ⟨a, 0, none⟩), .int .i64 0, .func (.func 76) #[] #[]] 81)).alloc (.cells #[.slice none 0 0, .pointer none, .bool false, .bool true, .bool false] 88)) (.cells #[] 4)
theorem V4_made (a : Nat) (w : World) : Made w (V4 a w) := ((((Made.refl w).alloc (Nat.le_refl _) _).alloc (by simp only [World.size_alloc]; omega) _).alloc (by simp only [World.size_alloc]; omega) _).alloc (by simp only [World.size_alloc]; omega) _
theorem V4_stk (a : Nat) (w : World) : (V4 a w).heap[w.heap.size]? = some (.cells #[.pointer (some ⟨a, 0, none⟩), .int .i64 0, .func (.func 76) #[] #[]] 81 (0, 0)) := by
  rw [heap_alloc_old _ _ (by simp only [World.size_alloc]; omega), heap_alloc_old _ _ (by simp only [World.size_alloc]; omega), heap_alloc_old _ _ (by simp only [World.size_alloc]; omega)]
  exact heap_alloc_new _ _
theorem ints2_info : (Try.prog.info? 32).map (fun i => (i.zero, i.size, i.bytes)) = some (some (.slice none 0 0), 1, 24) := by kernel_rfl
theorem run_cut_from (A : Option Addr) {n c k : Nat} (hk : k ≤ n) (w : World) : (Instr.sliceAt 32 (.slice A n c) (some (.int .i64 (k : Int))) none none).run Try.prog w = .ok (.slice (if c = k then A else A.map (·.add k)) (n - k) (c - k)) w := by
  obtain ⟨inf, hi, hs⟩ := Option.map_eq_some_iff.1 ints_size
  have h1 : (sizeOf 3).run Try.prog w = .ok 1 w := by simp [sizeOf, typeInfo, hi, hs]
  have h2 := run_sliceBound (P := Try.prog) w .i64 k n .sliceB (by omega) (by omega)
  simp [Instr.sliceAt, run_underlying ints_under, Instr.slice, Instr.sliceBounds, h1, h2]
set_option maxRecDepth 100000 in
set_option maxHeartbeats 2000000 in
theorem back_c (N M : Nat) (hN : N < 256) (hM : M < 256) (w : World) : Calls Try.prog 13 #[.int .u8 (N : Int), .int .u8 (M : Int)] w fun e w' => e = .returned (.bool true) ∧ Made w w' := by
  have HFR : Hid (∀ (n : Nat), n ≤ 100 → ∀ w, Calls Try.prog 50 #[.int .i64 (n : Int)] w fun e w' => ∃ a b, e = .returned (.tuple #[stk8 a, .bool true]) ∧ Arena w' a b 0 (List.replicate (1 + n) 0) ∧ w.heap.size ≤ a ∧ w.heap.size ≤ b ∧ Made w w') := fun n hn w => fresh_c n hn w
  have e1 : IntKind.i64.wrap (N : Int) = (N : Int) := by rw [IntKind.wrap_i64]; omega
  have e2 : (N : Int).tmod 30 = ((N % 30 : Nat) : Int) := by rw [Int.tmod_eq_emod_of_nonneg (by omega)]; omega
  have E1 := Lib.hid e1
  have E2 := Lib.hid e2
  clear e1 e2
  go_enter Try.func13, Try.ntmps13
  go_wp2_with fail
  refine (speaks_c _).mono ?_
  rintro e w1 ⟨rfl, hm1⟩
  go_wp2_with fail
  obtain ⟨k, hk, hk30⟩ : ∃ k : Nat, (N : Int) % 30 = (k : Int) ∧ k < 30 := ⟨N % 30, by omega, by omega⟩
  rw [hk]
  refine (HFR.out k (by omega) _).mono ?_
  rintro e w2 ⟨a, b, rfl, hA, hwa, hwb, hm2⟩
  have HA := Lib.hid hA
  have HM2 := Lib.hid (Made.trans hm1 hm2)
  have hwa' := Nat.le_trans hm1.size hwa
  have hwb' := Nat.le_trans hm1.size hwb
  clear hA hm1 hm2 HFR hwa hwb hk E1 E2 hN
  obtain ⟨iu, hi0, hz0⟩ := Option.map_eq_some_iff.1 ints_info
  simp only [Prod.mk.injEq] at hz0
  obtain ⟨hz0, hz1, hz2⟩ := hz0
  have HI := Lib.hid (And.intro hi0 (And.intro hz0 (And.intro hz1 hz2)))
  obtain ⟨ib, hi1, hy0⟩ := Option.map_eq_some_iff.1 bool_info
  simp only [Prod.mk.injEq] at hy0
  obtain ⟨hy0, hy1, hy2⟩ := hy0
  have HBI := Lib.hid (And.intro hi1 (And.intro hy0 (And.intro hy1 hy2)))
  clear hi0 hz0 hz1 hz2 hi1 hy0 hy1 hy2
  go_wp2_with fail
  go_loopw [9, 34] (fun p i wr => ∃ (t : Nat) (A : Option Addr) (c : Nat) (hv : Value), p = .slice A t c ∧ i = .int .i64 (t : Int) ∧ t ≤ k ∧ Hid (L1 w2.heap.size (V4 a w2) wr t t (.slice A t c) hv)) (fun _ i _ => (k - intOf i).toNat)
  case atStart => exact ⟨0, _, _, _, rfl, rfl, by omega, V4_start a w2⟩
  case round =>
    obtain ⟨t, A, c, hv, rfl, rfl, ht, HL⟩ := hrel
    by_cases hlt : t < k
    · have k0 : wr.cell? ⟨w2.heap.size + 1, 0, none⟩ = some hv := by rw [cell_of_row _ _ _ _ _ _ HL.out.wk]; rfl
      have i1 : (t : Int) < (k : Int) := by omega
      have HSZ := HL.out.sz
      go_upto_region 13 with (at_builtin; (refine wpList_append_lies _ rfl (.tmp 41) (.tmp 43) 32 rfl (w2.heap.size + 1 + 1 + 1 + 1) 3 iu (.int .i64 0) 1 8 Try.underlying32 HI.out.1 HI.out.2.1 HI.out.2.2.1 HI.out.2.2.2 rfl (by omega) hv t (upto t) (by simp [Act.eval, Act.put]) (World.ownsRow.alloc HL.out.hr _) ⟨wr.heap.size, 0, none⟩ 1 1 [.int .i64 (t : Int)] (by simp [Act.eval, Act.put]) rfl (lit_news _ _) (by simp [Value.oneCell']) (by omega) (by unfold maxLen; omega) (by omega) (by simp; omega) (wr.heap.size + 1) (by simp only [World.size_alloc]) ?_; intro g5 c5 w5 hown hgrow _ _; obtain ⟨HL5, f1, f2⟩ := HL.out.hand hown hgrow; have HH5 := Lib.hid HL5; clear HL5 hown hgrow))
      clear f1 f2 k0 HL
      generalize w5.setCell ⟨w2.heap.size + 1, 0, none⟩ (.slice (some ⟨g5, 0, none⟩) (t + 1) c5) = w6 at *
      have HS6 := HH5.out.sz
      go_wp2_with (at_builtin; (refine wpList_append_lies _ rfl (.tmp 47) (.tmp 48) 84 rfl (w2.heap.size + 1 + 1) 4 ib (.bool false) 1 1 Try.underlying84 HBI.out.1 HBI.out.2.1 HBI.out.2.2.1 HBI.out.2.2.2 rfl (by omega) (.slice A t c) t (List.replicate t (.bool false)) (by simp [Act.eval, Act.put]) (World.ownsRow.alloc HH5.out.pr _) ⟨w6.heap.size, 0, none⟩ 1 1 [.bool false] (by simp [Act.eval, Act.put]) rfl (World.news_of_block (cs := #[.bool false]) (t := 4) (fr := (0, 0)) (heap_alloc_new w6 _)) (by simp [Value.oneCell']) (by omega) (by unfold maxLen; omega) (by omega) (by simp only [World.size_alloc]; omega) (w6.heap.size + 1) (by simp only [World.size_alloc]) ?_; intro g7 c7 w7 hown hgrow hat _; have HOW := Lib.hid hown; have HGR := Lib.hid hgrow; have HAT := Lib.hid hat; clear hown hgrow hat))
      have HH7 := Lib.hid (HH5.out.put HOW.out HGR.out (HAT.out.imp (fun h => h) (fun h j hj => by
        obtain rfl : g7 = j := by simpa [Value.ownBlock] using hj
        omega)))
      go_roundw
      case rel => exact ⟨t + 1, _, _, _, rfl, by go_num, by omega, HH7⟩
      case measure => simp [intOf]; omega
    · obtain rfl : k = t := by omega
      have HL2 := Lib.hid HL.out.next
      clear HL
      obtain ⟨mm, hmm⟩ : ∃ mm, mm = min (M % 30) k := ⟨_, rfl⟩
      have HMM := Lib.hid hmm
      clear hmm
      go_upto_region 15 with fail
      go_cut [55, 56] (fun s55 s56 wx => s55 = .int .i64 (mm : Int) ∧ s56 = .int .i64 0 ∧ wx = wr)
      case first =>
        go_wp2_with fail
        all_goals
          go_meet
          refine ⟨?_, rfl, rfl⟩
          have := HMM.out
          congr 1
          omega
      case rest =>
        obtain ⟨rfl, rfl, hwx⟩ := hcut
        have hwx' := hwx.symm
        subst hwx'
        have hmk : mm ≤ k := by have := HMM.out; omega
        go_wp2_with fail
        go_loopw [10, 56] (fun p i wv => ∃ (u : Nat) (A2 : Option Addr) (c2 : Nat), p = .slice A2 u c2 ∧ i = .int .i64 (u : Int) ∧ u ≤ mm ∧ Hid (L2 w2.heap.size (V4 a w2) wv k k u (.slice A k c) (.slice A2 u c2) hv)) (fun _ i _ => (mm - intOf i).toNat)
        case atStart => exact ⟨0, _, _, rfl, rfl, by omega, HL2⟩
        case round =>
          obtain ⟨u, A2, c2, rfl, rfl, hu, HT⟩ := hrel
          by_cases hlt : u < mm
          · have i1 : (u : Int) < (mm : Int) := by omega
            have HSZ := HT.out.sz
            go_wp2_with (at_builtin; (refine wpList_append_lies _ rfl (.tmp 58) (.tmp 59) 84 rfl (w2.heap.size + 1 + 1 + 1) 4 ib (.bool false) 1 1 Try.underlying84 HBI.out.1 HBI.out.2.1 HBI.out.2.2.1 HBI.out.2.2.2 rfl (by omega) (.slice A2 u c2) u (List.replicate u (.bool true)) (by simp [Act.eval, Act.put]) (World.ownsRow.alloc HT.out.tr _) ⟨wr.heap.size, 0, none⟩ 1 1 [.bool true] (by simp [Act.eval, Act.put]) rfl (World.news_of_block (cs := #[.bool true]) (t := 4) (fr := (0, 0)) (heap_alloc_new wr _)) (by simp [Value.oneCell']) (by omega) (by unfold maxLen; omega) (by omega) (by simp only [World.size_alloc]; omega) (wr.heap.size + 1) (by simp only [World.size_alloc]) ?_; intro g7 c7 w7 hown hgrow hat _; have HOW := Lib.hid hown; have HGR := Lib.hid hgrow; have HAT := Lib.hid hat; clear hown hgrow hat))
            have HH7 := Lib.hid (HT.out.take HOW.out HGR.out (HAT.out.imp (fun h => h) (fun h j hj => by
              obtain rfl : g7 = j := by simpa [Value.ownBlock] using hj
              omega)))
            go_roundw
            case rel => exact ⟨u + 1, _, _, rfl, by go_num, by omega, HH7⟩
            case measure => simp [intOf]; omega
          · obtain rfl : mm = u := by omega
            clear HL2
            have hmk2 := make_bools mm (by omega)
            go_wp2_with fail
            obtain ⟨wo, rfl⟩ : ∃ wo : World, wo = wr := ⟨_, rfl⟩
            obtain ⟨V, hV3, hL3⟩ := L3.begin (B := w.heap.size) hk30 hmk HA.out (V4_made a w2) HT.out HM2.out ⟨hwa', hwb', HM2.out.size⟩ (V4_stk a w2)
            have HV3 := Lib.hid hV3
            have HL3 := Lib.hid hL3
            clear hV3 hL3
            clear HT HMM
            obtain ⟨ij, hj0, hj1⟩ := Option.map_eq_some_iff.1 ints2_info
            simp only [Prod.mk.injEq] at hj1
            obtain ⟨hj1, hj2, hj3⟩ := hj1
            have HJ := Lib.hid (And.intro hj0 (And.intro hj1 (And.intro hj2 hj3)))
            clear hj0 hj1 hj2 hj3
            go_loopw [13, 71] (fun p i wv => ∃ (r : Nat) (A3 : Option Addr) (c3 : Nat), p = .slice A3 r c3 ∧ i = .int .i64 (r : Int) ∧ r ≤ 3 ∧ Hid (L3 a b w.heap.size w2.heap.size (wo.heap.size + 1 + 1) k mm V w wv r (.slice A3 r c3))) (fun _ i _ => (3 - intOf i).toNat)
            case atStart => exact ⟨0, _, _, rfl, rfl, by omega, HL3⟩
            case round =>
              obtain ⟨r, A3, c3, rfl, rfl, hr, HL⟩ := hrel
              by_cases hlt : r < 3
              · obtain ⟨Ar, Nr, cr, hN30, hNc, hcc, hcell, HCODE⟩ := HL.out.go hk30 hmk HV3.out hlt
                obtain ⟨s0, s1, s2⟩ := HL.out.stk
                have i0 : (0 : Int) ≤ (r : Int) := by omega
                have i1 : (r : Int) < 3 := by omega
                have i2 : (Nr : Int) < 30 := by omega
                have i3 : (0 : Int) ≤ (Nr : Int) := by omega
                clear HL HL3
                go_wp2_with fail
                refine HCODE.out.mono ?_
                rintro e w5 ⟨v, rfl, hv, HNEW⟩
                clear HCODE hcell s0 s1 s2
                go_wp2_with fail
                refine HNEW.out.mono ?_
                rintro e w6 ⟨tb, rfl, HFIN⟩
                clear HNEW
                go_wp2_with fail
                refine HFIN.out.mono ?_
                rintro e w7 ⟨rfl, ⟨s0, s1, s2⟩, HLIST⟩
                clear HFIN
                go_wp2_with fail
                refine HLIST.out.mono ?_
                rintro e w8 ⟨A4, n4, c4, rfl, hB4, vs, HOW, HNEXT⟩
                clear HLIST s0 s1 s2
                go_wp2_with (at_builtin; (refine wpList_append_lies _ rfl (.tmp 90) (.tmp 93) 95 rfl w.heap.size 32 ij (.slice none 0 0) 1 24 Try.underlying95 HJ.out.1 HJ.out.2.1 HJ.out.2.2.1 HJ.out.2.2.2 rfl (by omega) (.slice A3 r c3) r vs (by simp [Act.eval, Act.put]) (World.ownsRow.alloc HOW.out _) ⟨w8.heap.size, 0, none⟩ 1 1 [.slice A4 n4 c4] (by simp [Act.eval, Act.put]) rfl (World.news_of_block (cs := #[.slice A4 n4 c4]) (t := 32) (fr := (0, 0)) (heap_alloc_new w8 _)) (by simp [Value.oneCell']) (by omega) (by unfold maxLen; omega) (by omega) (by simp only [World.size_alloc]; omega) (w8.heap.size + 1) (by simp only [World.size_alloc]) ?_; intro g9 c9 w9 hown hgrow hat _; have HOW9 := Lib.hid hown; have HGR9 := Lib.hid hgrow; have HAT9 := Lib.hid hat; clear hown hgrow hat))
                have HH9 := Lib.hid (HNEXT.out _ _ _ HOW9.out HGR9.out (HAT9.out.imp (fun h => h) (fun h j hj => by
                  obtain rfl : g9 = j := by simpa [Value.ownBlock] using hj
                  omega)))
                go_roundw
                case rel => exact ⟨r + 1, _, _, rfl, by go_num, by omega, HH9⟩
                case measure => simp [intOf]; omega
              · obtain rfl : r = 3 := by omega
                obtain ⟨g5, A0, c0, A1, c1, A4, c4, rfl, k0, k1, k2, k4, hk0, hc0, HS1, HS2, hbel⟩ := HL.out.ends hk30 hmk
                have HSL := Lib.hid HS1
                have HSM := Lib.hid HS2
                have HBEL := Lib.hid hbel
                have hsl := fun w1 => run_cut_from A0 (n := k) (c := c0) (k := mm) hmk w1
                obtain ⟨A9, hA9⟩ : ∃ A9, A9 = (if c0 = mm then A0 else A0.map (·.add mm)) := ⟨_, rfl⟩
                rw [← hA9] at hsl
                have HA9 : Hid (k - mm = 0 ∨ A9 = A0.map (·.add mm)) := by
                  by_cases h : c0 = mm
                  · exact Or.inl (by omega)
                  · exact Or.inr (by rw [hA9, if_neg h])
                clear HL HL3 HS1 HS2 hbel hA9 hc0
                go_wp2_with fail
                go_quiet (first | (go_at_call_of 33 (Value.slice A1 (k - mm) c1); exact Calls.quiet_of (HSL.out _ _ _ HA9.out)) | (go_at_call_of 33 (Value.slice A4 k c4); exact Calls.quiet_of (HSM.out _)))
                have HF := Lib.hid (below_drewN HBEL.out nq)
                clear HSL HSM HA9 hsl
                go_wp2_with fail
                go_ret
                exact ⟨rfl, HF.out⟩
theorem u8_of {c : Int} (h : (Lit.int .u8 c).wf = true) : ∃ n : Nat, c = (n : Int) ∧ n < 256 := by
  simp [Lit.wf, IntKind.min, IntKind.max, IntKind.signed, IntKind.bits] at h
  exact ⟨c.toNat, by omega, by omega⟩
theorem back (n m : Int) (w : World) (hn : (Lit.int .u8 n).wf = true) (hm : (Lit.int .u8 m).wf = true) : Calls Try.prog 13 #[.int .u8 n, .int .u8 m] w fun e w' => e = .returned (.bool true) ∧ Made w w' := by
  obtain ⟨N, rfl, h1⟩ := u8_of hn
  obtain ⟨M, rfl, h2⟩ := u8_of hm
  exact back_c N M h1 h2 w
end Go.Proofs.Ythllplocbciepaa.Kod.Eight
