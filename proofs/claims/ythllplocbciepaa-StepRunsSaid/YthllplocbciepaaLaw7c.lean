/- Layer 7, StepPieces: true whatever the input. -/
import Derived.Test.YthllplocbciepaaCode7b
import Derived.Test.YthllplocbciepaaPcs7b
import Derived.Deep.RegionHeld3
import Derived.Test.YthllplocbciepaaSpk7
import Derived.Test.YthllplocbciepaaFew7
import Derived.Test.YthllplocbciepaaOpenS
import Derived.Deep.DeepCutAuto
namespace Go.Proofs.Ythllplocbciepaa.Cod.Seven
open Go.RowKit Go.Proofs.Ythllplocbciepaa Go.Proofs.Ythllplocbciepaa.Cell
set_option linter.unusedVariables false
set_option linter.unusedSimpArgs false

theorem two_new (w : World) (o1 o2 : Array Value) (t1 t2 : TypeId) : ((w.alloc (.cells o1 t1)).alloc (.cells o2 t2)).drew.heap[w.heap.size]? = some (.cells o1 t1 (0, 0)) ∧ ((w.alloc (.cells o1 t1)).alloc (.cells o2 t2)).drew.heap[w.heap.size + 1]? = some (.cells o2 t2 (0, 0)) ∧ Made w ((w.alloc (.cells o1 t1)).alloc (.cells o2 t2)).drew := by
  refine ⟨?_, ?_, below_drewN (((Made.refl _).alloc (Nat.le_refl _) _).alloc (by simp only [World.size_alloc]; omega) _) 1⟩
  · show ((w.alloc (.cells o1 t1)).alloc (.cells o2 t2)).heap[w.heap.size]? = _
    rw [Below.heap_alloc _ _ _ (by simp only [World.size_alloc]; omega)]
    exact heap_alloc_new _ _
  · show ((w.alloc (.cells o1 t1)).alloc (.cells o2 t2)).heap[w.heap.size + 1]? = _
    have := heap_alloc_new (w.alloc (.cells o1 t1)) (.cells o2 t2)
    rw [World.size_alloc] at this
    exact this
/-- The beginning: an arena, and sums in a block. -/
theorem start7 {N ns : Nat} {w : World} {a b sb : Nat} {xs : List Int} {own : Nat → Prop} (hA : Arena w a b 0 xs) (hw : ∀ x ∈ xs, 0 ≤ x ∧ x < 18446744073709551616) (hl : xs.length ≤ 1048576) (hN : N < 4611686018427387904)
    (hr : w.heap[sb]? = some (.cells (row (List.replicate ns 0)) 22 (0, 0))) (hs : own sb) (ho : ∀ k, own k → k ≠ a ∧ k ≠ b ∧ k < w.heap.size) :
    Inv (S7 a b sb ns) N ⟨0, xs, [], ⟨List.replicate ns 0, []⟩⟩ [] ⟨[], own, fun _ => False⟩ w :=
  Inv.start (S := S7 a b sb ns) hA hw hl hN ho ⟨hs, hr, by simp, zeros_wide ns, fun p hp => by simp at hp⟩
/-- Blocks that others write, at the beginning. -/
theorem Inv.scrstart {S : Sys} {n : Nat} {σ : St S.R} {rs : List Value} {L : Lay} {w : World} {X : Nat → Prop} (h : Inv S n σ rs L w) (hX : ∀ k, X k → k ≠ S.a ∧ k ≠ S.b ∧ k ∉ L.ts ∧ ¬ L.own k ∧ k < w.heap.size) : Inv S n σ rs { L with scr := X } w :=
  ⟨h.ar, h.fuel, h.wide, h.len, h.nts, h.nst, h.task, h.few, h.once, h.tsa, h.owna, h.rest, hX⟩
theorem news_one {W : World} {x : Value} {t : TypeId} {b : Nat} (hb : W.heap.size = b) : ∀ (j : Nat) (u : Value), [x][j]? = some u → (W.alloc (.cells #[x] t)).cell? ((⟨b, 0, none⟩ : Addr).add j) = some u := by
  subst hb
  exact cell_one_new W x t
theorem ints_under : Try.prog.underlying 32 = some (.slice 3) := by kernel_rfl
theorem ints_size : (Try.prog.info? 3).map (·.size) = some 1 := by kernel_rfl
theorem run_cut_to (A : Option Addr) {n c k : Nat} (hk : k ≤ c) (w : World) : (Instr.sliceAt 32 (.slice A n c) none (some (.int .i64 (k : Int))) none).run Try.prog w = .ok (.slice A k c) w := by
  obtain ⟨inf, hi, hs⟩ := Option.map_eq_some_iff.1 ints_size
  have h1 : (sizeOf 3).run Try.prog w = .ok 1 w := by simp [sizeOf, typeInfo, hi, hs]
  have h2 := run_sliceBound (P := Try.prog) w .i64 k c .sliceAcap (by omega) (by omega)
  have h3 : A.map (fun x => x.add 0) = A := by cases A <;> simp [Addr.add]
  simp [Instr.sliceAt, run_underlying ints_under, Instr.slice, Instr.sliceBounds, h1, h2, h3]
theorem run_cut_from (A : Option Addr) {n c k : Nat} (hk : k ≤ n) (w : World) : (Instr.sliceAt 32 (.slice A n c) (some (.int .i64 (k : Int))) none none).run Try.prog w = .ok (.slice (if c = k then A else A.map (·.add k)) (n - k) (c - k)) w := by
  obtain ⟨inf, hi, hs⟩ := Option.map_eq_some_iff.1 ints_size
  have h1 : (sizeOf 3).run Try.prog w = .ok 1 w := by simp [sizeOf, typeInfo, hi, hs]
  have h2 := run_sliceBound (P := Try.prog) w .i64 k n .sliceB (by omega) (by omega)
  simp [Instr.sliceAt, run_underlying ints_under, Instr.slice, Instr.sliceBounds, h1, h2]
/-- Two rows without tasks. -/
theorem Pcs.start {a b sb a' b' sb' ns : Nat} {ls : List (List Acc)} {w wc : World} (hA : Arena wc a b 0 (List.replicate 4 0)) (hA' : Arena wc a' b' 0 (List.replicate 4 0)) (h1 : wc.heap[sb]? = some (.cells (row (List.replicate ns 0)) 22 (0, 0))) (h2 : wc.heap[sb']? = some (.cells (row (List.replicate ns 0)) 22 (0, 0)))
    (d : sb ≠ a ∧ sb ≠ b ∧ sb' ≠ a' ∧ sb' ≠ b' ∧ sb ≠ sb' ∧ a ≠ a' ∧ a ≠ b' ∧ b ≠ a' ∧ b ≠ b' ∧ sb ≠ a' ∧ sb ≠ b' ∧ sb' ≠ a ∧ sb' ≠ b) (hw : Below w.heap.size w wc) (hge : w.heap.size ≤ a ∧ w.heap.size ≤ b ∧ w.heap.size ≤ sb ∧ w.heap.size ≤ a' ∧ w.heap.size ≤ b' ∧ w.heap.size ≤ sb') :
    Pcs a b sb a' b' sb' ns ls w 0 0 (.slice none 0 0) (.slice none 0 0) [] [] [] [] wc := by
  have la := (Array.getElem?_eq_some_iff.1 hA.ha).1
  have lb := (Array.getElem?_eq_some_iff.1 hA.hb).1
  have ls1 := (Array.getElem?_eq_some_iff.1 h1).1
  have ls2 := (Array.getElem?_eq_some_iff.1 h2).1
  have hno : ∀ k, ¬ two (.slice none 0 0) (.slice none 0 0) k := fun k hk => by
    rcases hk with hk | hk <;> simp [Value.ownBlock] at hk
  refine ⟨Ready.start (Inv.scrstart (start7 (own := fun k => k = sb) hA (zeros_wide 4) (by simp) (by omega) h1 rfl (fun k hk => by subst hk; omega)) (fun k hk => absurd hk (hno k))), Ready.start (Inv.scrstart (start7 (own := fun k => k = sb') hA' (zeros_wide 4) (by simp) (by omega) h2 rfl (fun k hk => by subst hk; omega)) (fun k hk => ?_)), ⟨rfl, Or.inl ⟨rfl, rfl⟩⟩, ⟨rfl, Or.inl ⟨rfl, rfl⟩⟩, fun j hj => by simp [Value.ownBlock] at hj, hw, ⟨hw.size, fun k hk e => ?_⟩, ⟨hw.size, fun k hk e => ?_⟩⟩
  · rcases hk with hk | hk
    · exact absurd hk (hno k)
    · simp [S7] at hk ⊢
      omega
  · rcases e with e | e | e | e | e
    · have : k = a := e; omega
    · have : k = b := e; omega
    · simp at e
    · have : k = sb := e; omega
    · exact hno k e
  · rcases e with e | e | e | e | e
    · have : k = a' := e; omega
    · have : k = b' := e; omega
    · simp at e
    · have : k = sb' := e; omega
    · rcases e with e | e
      · exact hno k e
      · simp at e
        omega
set_option maxRecDepth 100000 in
set_option maxHeartbeats 4000000 in
theorem pieces_loop (A A' : Option Addr) (n c n' c' : Nat) (ls : List (List Acc)) (ps : List Int) (cut : Int) (hn : Hid (n = ls.length)) (h6 : n ≤ 6) (hfew : few ls = true) (hn' : Hid (n' = ps.length)) (h200 : n' ≤ 200) (hnc' : n' ≤ c') (w : World) (hl : Hid (RdAA w w.heap.size A ls)) (hp : Hid (Rd .i64 w w.heap.size A' ps)) (hc0 : 0 ≤ cut) (hc1 : cut ≤ 255) :
    Calls Try.prog 7 #[.slice A n c, .slice A' n' c', .int .u8 cut] w fun e w' => e = .returned (.bool true) ∧ Made w w' := by
  have HNW : Hid (∀ w, Calls Try.prog 36 #[.int .i64 4] w fun e w' => ∃ a b, e = .returned (.tuple #[.pointer (some ⟨a, 0, none⟩), .int .i64 0]) ∧ Arena w' a b 0 (List.replicate 4 0) ∧ w.heap.size ≤ a ∧ w.heap.size ≤ b ∧ Made w w') := fun w => New_ex 4 (by omega) (by omega) w
  have hn200 : ¬ 200 < (n' : Int) := by omega
  have hmk : ∀ w : World, (Instr.makeSlice 54 (.int .i64 (n : Int)) (.int .i64 (n : Int))).run Try.prog w = .ok (.slice (some ⟨w.heap.size, 0, none⟩) n n) (w.alloc (.cells (row (List.replicate n 0)) 22)) := fun w => make_run64 n (by omega) w
  have HFW := Lib.hid hfew
  clear hfew
  go_enter Try.func7, Try.ntmps7
  go_wp2_with fail
  refine (Spk7.speaks_c _).mono ?_
  rintro e w0 ⟨rfl, hm0⟩
  have HM0 := Lib.hid hm0
  clear hm0
  go_wp2_with fail
  refine (few_c A n c ls w0 w.heap.size hn (by omega) (hl.out.later HM0.out)).mono ?_
  rintro e w0' ⟨rfl, rfl⟩
  rw [HFW.out]
  go_wp2_with fail
  refine (HNW.out _).mono ?_
  rintro e w1 ⟨a, b, rfl, hA, hwa, hwb, hm1⟩
  have HA := Lib.hid hA
  have HM1 := Lib.hid hm1
  clear hA hm1
  go_wp2_with fail
  refine (HNW.out _).mono ?_
  rintro e w2 ⟨a', b', rfl, hA', hwa', hwb', hm2⟩
  have HM2 := Lib.hid (Made.trans (Made.trans HM0.out HM1.out) hm2)
  have HAx := Lib.hid (HA.out.later hm2)
  have HA' := Lib.hid hA'
  have la := (Array.getElem?_eq_some_iff.1 HA.out.ha).1
  have lb := (Array.getElem?_eq_some_iff.1 HA.out.hb).1
  have la' := (Array.getElem?_eq_some_iff.1 hA'.ha).1
  have lb' := (Array.getElem?_eq_some_iff.1 hA'.hb).1
  have h01 := HM0.out.size
  have h12 := HM1.out.size
  have h23 := hm2.size
  clear hA' hm2 HNW HM0 HM1 HA
  go_upto_region 7 with fail
  go_cut [11, 12] (fun s11 s12 wx => ∃ sb sb' : Nat, s11 = .slice (some ⟨sb, 0, none⟩) n n ∧ s12 = .slice (some ⟨sb', 0, none⟩) n n ∧ Hid (wx.heap[sb]? = some (.cells (row (List.replicate n 0)) 22 (0, 0))) ∧ Hid (wx.heap[sb']? = some (.cells (row (List.replicate n 0)) 22 (0, 0))) ∧ Hid (sb ≠ sb') ∧ Hid (w2.heap.size ≤ sb ∧ w2.heap.size ≤ sb') ∧ Hid (Made w2 wx))
  case first =>
    go_region
    all_goals
      go_wp2_with fail
      go_meet
      obtain ⟨h1, h2, h3⟩ := two_new w2 (row (List.replicate n 0)) (row (List.replicate n 0)) 22 22
      first
      | exact ⟨_, _, rfl, rfl, h1, h2, (by show _ ≠ _; omega), (by show _ ∧ _; omega), h3⟩
      | exact ⟨_, _, rfl, rfl, h2, h1, (by show _ ≠ _; omega), (by show _ ∧ _; omega), h3⟩
  case rest =>
    obtain ⟨sb, sb', rfl, rfl, H1, H2, HNE, HSB, HM3⟩ := hcut
    have hnn := HNE.out
    have hss := HSB.out
    have HP0 : Hid (Pcs a b sb a' b' sb' n ls w 0 0 (.slice none 0 0) (.slice none 0 0) [] [] [] [] wc) :=
      Pcs.start (HAx.out.later HM3.out) (HA'.out.later HM3.out) H1.out H2.out (by omega) (Below.trans HM2.out (Below.mono HM3.out HM2.out.size)) (by omega)
    clear HM3 H1 H2 HNE HSB hnn hss la lb la' lb' h01 h12 h23 hwa hwb hwa' hwb' HAx HA' HM2 hmk
    obtain ⟨iu, hiu⟩ := Option.map_eq_some_iff.1 tasks_info
    simp only [Prod.mk.injEq] at hiu
    have HI := Lib.hid hiu
    clear hiu
    go_wp2_with fail
    go_loopw [13, 14, 65] (fun v1 v2 iv wr => ∃ (k : Nat) (ts1 ts2 : List Nat) (rs1 rs2 : List Value), k ≤ n ∧ iv = .int .i64 k ∧ Hid (Pcs a b sb a' b' sb' n ls w k k v1 v2 ts1 ts2 rs1 rs2 wr)) (fun _ _ iv _ => (n - intOf iv).toNat)
    case atStart => exact ⟨0, [], [], [], [], by omega, rfl, HP0⟩
    case round =>
      obtain ⟨k, ts1, ts2, rs1, rs2, hk, rfl, HP⟩ := hrel
      clear HP0
      by_cases hlt : k < n
      · have hkl : k < ls.length := by have := hn.out; omega
        obtain ⟨a0, A2, m, c2, hA0, hb0, hcell0, hm, hmc, hcc, hrd, hwf⟩ := hl.out k hkl
        have hcell := (HP.out.bel.cell (p := a0.add k) (by rw [add_block]; exact hb0)).trans hcell0
        subst hA0
        have HRD := Lib.hid hrd
        have HWF := Lib.hid hwf
        have HMM : Hid (m = ls[k].length) := hm
        have HGD : Hid (ls.getD k [] = ls[k]) := by show _ = _; rw [List.getD_eq_getElem?_getD, List.getElem?_eq_getElem hkl]; rfl
        have i0 : (0 : Int) ≤ (k : Int) := by omega
        have i1 : (k : Int) < (n : Int) := by omega
        have HC1 : Hid (Calls Try.prog 38 #[.pointer (some ⟨a, 0, none⟩), .slice A2 m c2, .pointer (some ⟨sb, k, none⟩)] wr (Makes (S7 a b sb n) 250 (k, ls.getD k []) ⟨ts1, fun k => k = sb, two u13 u14⟩ wr)) := by
          show Calls _ _ _ _ _
          rw [HGD.out]
          exact code_all ls[k] 250 k w.heap.size wr _ A2 m c2 HMM.out hmc hcc hlt (fun k hk => HP.out.r1.inv.mut_lt hk) HP.out.old1 (HRD.out.later HP.out.bel) HWF.out
        clear hm hrd hwf hcell0 hb0
        go_wp2_with fail
        refine HC1.out.mono ?_
        rintro e w5 ⟨v5, rfl, hm5, hr5⟩
        have HM5 := Lib.hid hm5
        have HR5 := Lib.hid hr5
        have HV5 := Lib.hid hr5.func
        clear hm5 hr5 HC1
        go_wp2_with fail
        refine (New_c HV5.out).mono ?_
        rintro e w6 ⟨rfl, rfl⟩
        have HN5 := Lib.hid (news_one (W := w5.alloc (.cells #[v5, .int .i64 0] 117)) (x := .pointer (some ⟨w5.heap.size, 0, none⟩)) (t := 57) (b := w5.heap.size + 1) (by simp only [World.size_alloc]))
        have HO5 := Lib.hid (own_made HP.out.o1 (Made.trans HM5.out (((Made.refl w5).alloc (Nat.le_refl _) (.cells #[v5, .int .i64 0] 117)).alloc (by simp only [World.size_alloc]; omega) (.cells #[.pointer (some ⟨w5.heap.size, 0, none⟩)] 57))))
        have hb5 : w.heap.size ≤ ((w5.alloc (.cells #[v5, .int .i64 0] 117)).alloc (.cells #[.pointer (some ⟨w5.heap.size, 0, none⟩)] 57)).heap.size := by have := HP.out.bel.size; have := HM5.out.size; simp only [World.size_alloc]; omega
        go_wp2_with (at_builtin; (refine wpList_append_lies _ rfl (.tmp 70) (.tmp 78) 55 rfl w.heap.size 57 iu (.pointer none) 1 8 Try.underlying55 HI.out.1 HI.out.2.1 HI.out.2.2.1 HI.out.2.2.2 rfl (by omega) u13 k (ptrs ts1) (by simp [Act.eval, Act.put]) HO5.out ⟨w5.heap.size + 1, 0, none⟩ 1 1 [.pointer (some ⟨w5.heap.size, 0, none⟩)] (by simp [Act.eval, Act.put]) rfl HN5.out (by simp [Value.oneCell']) (by omega) (by unfold maxLen; omega) (by omega) hb5 (w5.heap.size + 1 + 1) (by simp only [World.size_alloc]) ?_; intro g1 cap1 w7 hown hgrow hat hlt1))
        have HP1 := Lib.hid (HP.out.more1 HM5.out HR5.out hown hgrow hat hlt1)
        clear hown hgrow hat hlt1 hb5 HO5 HN5 HV5 HR5 HM5 HP
        generalize w5.heap.size = p1 at *
        have HC2 : Hid (Calls Try.prog 38 #[.pointer (some ⟨a', 0, none⟩), .slice A2 m c2, .pointer (some ⟨sb', k, none⟩)] w7 (Makes (S7 a' b' sb' n) 250 (k, ls.getD k []) ⟨ts2, fun k => k = sb', fun j => two (.slice (some ⟨g1, 0, none⟩) (k + 1) cap1) u14 j ∨ j = a ∨ j = b ∨ j = sb ∨ j ∈ ts1 ++ [p1]⟩ w7)) := by
          show Calls _ _ _ _ _
          rw [HGD.out]
          exact code_all ls[k] 250 k w.heap.size w7 _ A2 m c2 HMM.out hmc hcc hlt (fun k hk => HP1.out.r2.inv.mut_lt hk) HP1.out.old2 (HRD.out.later HP1.out.bel) HWF.out
        refine HC2.out.mono ?_
        rintro e w8 ⟨v8, rfl, hm8, hr8⟩
        have HM8 := Lib.hid hm8
        have HR8 := Lib.hid hr8
        have HV8 := Lib.hid hr8.func
        clear hm8 hr8 HC2 HGD HMM HRD HWF
        go_wp2_with fail
        refine (New_c HV8.out).mono ?_
        rintro e w9 ⟨rfl, rfl⟩
        have HN8 := Lib.hid (news_one (W := w8.alloc (.cells #[v8, .int .i64 0] 117)) (x := .pointer (some ⟨w8.heap.size, 0, none⟩)) (t := 57) (b := w8.heap.size + 1) (by simp only [World.size_alloc]))
        have HO8 := Lib.hid (own_made HP1.out.o2 (Made.trans HM8.out (((Made.refl w8).alloc (Nat.le_refl _) (.cells #[v8, .int .i64 0] 117)).alloc (by simp only [World.size_alloc]; omega) (.cells #[.pointer (some ⟨w8.heap.size, 0, none⟩)] 57))))
        have hb8 : w.heap.size ≤ ((w8.alloc (.cells #[v8, .int .i64 0] 117)).alloc (.cells #[.pointer (some ⟨w8.heap.size, 0, none⟩)] 57)).heap.size := by have := HP1.out.bel.size; have := HM8.out.size; simp only [World.size_alloc]; omega
        go_wp2_with (at_builtin; (refine wpList_append_lies _ rfl (.tmp 80) (.tmp 88) 55 rfl w.heap.size 57 iu (.pointer none) 1 8 Try.underlying55 HI.out.1 HI.out.2.1 HI.out.2.2.1 HI.out.2.2.2 rfl (by omega) u14 k (ptrs ts2) (by simp [Act.eval, Act.put]) HO8.out ⟨w8.heap.size + 1, 0, none⟩ 1 1 [.pointer (some ⟨w8.heap.size, 0, none⟩)] (by simp [Act.eval, Act.put]) rfl HN8.out (by simp [Value.oneCell']) (by omega) (by unfold maxLen; omega) (by omega) hb8 (w8.heap.size + 1 + 1) (by simp only [World.size_alloc]) ?_; intro g2 cap2 w10 hown hgrow hat hlt2))
        have HP2 := Lib.hid (HP1.out.more2 HM8.out HR8.out hown hgrow hat hlt2)
        clear hown hgrow hat hlt2 hb8 HO8 HN8 HV8 HR8 HM8 HP1
        generalize w8.heap.size = p2 at *
        go_roundw
        case rel => exact ⟨k + 1, _, _, _, _, by omega, by go_num, HP2⟩
        case measure => simp [intOf]; omega
      · obtain rfl : k = n := by omega
        have hcut : cut % ((n' : Int) + 1) < (n' : Int) + 1 := Int.emod_lt_of_pos _ (by omega)
        have hcut0 : 0 ≤ cut % ((n' : Int) + 1) := Int.emod_nonneg _ (by omega)
        obtain ⟨kk, hkk⟩ : ∃ kk : Nat, (kk : Int) = cut % ((n' : Int) + 1) := ⟨(cut % ((n' : Int) + 1)).toNat, by omega⟩
        have hkn : kk ≤ n' := by omega
        have HKK := Lib.hid hkk
        clear hkk hcut hcut0
        go_wp2_with fail
        rw [← HKK.out]
        obtain ⟨A1, c1, A2, c2, rfl, rfl, t1l, t2l, hrun⟩ := HP.out.run1 (c' := c') hp.out (by have := hn'.out; omega) hn' (by omega)
        have hlike := run_like (M0_like a b sb a' b' sb' k ls k) ps
        have happ := run_append (M0 a' b' sb' k ls k) (ps.take kk) (ps.drop kk)
        rw [List.take_append_drop] at happ
        have hq1 := run_count (M0 a' b' sb' k ls k) (ps.take kk)
        have hq2 := run_count ((M0 a' b' sb' k ls k).run (ps.take kk)).1 (ps.drop kk)
        have hln := hn'.out
        rw [List.length_take] at hq1
        rw [List.length_drop] at hq2
        rw [hlike.2, happ.2] at hrun
        have HLK : Hid (LikeM ((M0 a b sb k ls k).run ps).1 (((M0 a' b' sb' k ls k).run (ps.take kk)).1.run (ps.drop kk)).1) := by show LikeM _ _; rw [← happ.1]; exact hlike.1
        have HRUN := Lib.hid hrun
        have HT1 := Lib.hid t1l
        have HT2 := Lib.hid t2l
        generalize hM1 : ((M0 a b sb k ls k).run ps).1 = M1 at HLK HRUN
        have HSL1 := fun w => run_cut_to A' (n := n') (c := c') (k := kk) (by omega) w
        have HSL2 := fun w => run_cut_from A' (n := n') (c := c') (k := kk) hkn w
        obtain ⟨A3, hA3⟩ : ∃ A3, A3 = (if c' = kk then A' else A'.map (·.add kk)) := ⟨_, rfl⟩
        rw [← hA3] at HSL2
        have HA3 : Hid (n' - kk = 0 ∨ A3 = A'.map (·.add kk)) := by
          by_cases h : c' = kk
          · exact Or.inl (by omega)
          · exact Or.inr (by rw [hA3, if_neg h])
        have HA0 : Hid (kk = 0 ∨ A' = A'.map (·.add 0)) := Or.inr (by cases A' <;> simp [Addr.add])
        have HQ1E : Hid ((ps.drop 0).take kk = ps.take kk) := by show _ = _; rw [List.drop_zero]
        have HQ2E : Hid ((ps.drop kk).take (n' - kk) = ps.drop kk) := by show _ = _; rw [List.take_of_length_le (by rw [List.length_drop]; omega)]
        obtain ⟨q1, hq1e⟩ : ∃ q1, q1 = ((M0 a' b' sb' k ls k).run (ps.take kk)).2 := ⟨_, rfl⟩
        obtain ⟨q2, hq2e⟩ : ∃ q2, q2 = (((M0 a' b' sb' k ls k).run (ps.take kk)).1.run (ps.drop kk)).2 := ⟨_, rfl⟩
        rw [← hq1e] at hq1 HRUN
        rw [← hq2e] at hq2 HRUN
        have hqq : 0 ≤ q1 + q2 ∧ q1 + q2 ≤ 200 := by omega
        have HR1 : Hid (∀ wa, Q7 a b sb a' b' sb' k M1 (M0 a' b' sb' k ls k) 200 2600 w A1 A2 A' ts1 ts2 ps wa → Calls Try.prog 39 #[.slice A2 k c2, .slice A' kk c'] wa fun e wb => e = .returned (.int .i64 q1) ∧ Hid (Q7 a b sb a' b' sb' k M1 ((M0 a' b' sb' k ls k).run (ps.take kk)).1 (200 - kk) (2600 - 2 * kk) w A1 A2 A' ts1 ts2 ps wb)) := fun wa h => by
          have := h.run (m := 200 - kk) (n := 2600 - 2 * kk) (k := 0) (l := kk) (N := k) (N' := kk) (c := c2) (c' := c') (A3 := A') (by omega) (by omega) (by omega) (by show _ = _; exact HT2.out.symm) (by omega) (Lib.hid rfl) HA0.out
          rw [HQ1E.out, ← hq1e] at this
          exact this
        have HR2 : Hid (∀ wa, Q7 a b sb a' b' sb' k M1 ((M0 a' b' sb' k ls k).run (ps.take kk)).1 (200 - kk) (2600 - 2 * kk) w A1 A2 A' ts1 ts2 ps wa → Calls Try.prog 39 #[.slice A2 k c2, .slice A3 (n' - kk) (c' - kk)] wa fun e wb => e = .returned (.int .i64 q2) ∧ Hid (Q7 a b sb a' b' sb' k M1 (((M0 a' b' sb' k ls k).run (ps.take kk)).1.run (ps.drop kk)).1 0 0 w A1 A2 A' ts1 ts2 ps wb)) := fun wa h => by
          have := h.run (m := 0) (n := 0) (k := kk) (l := n' - kk) (N := k) (N' := n' - kk) (c := c2) (c' := c' - kk) (A3 := A3) (by omega) (by omega) (by omega) (by show _ = _; exact HT2.out.symm) (by omega) (Lib.hid rfl) HA3.out
          rw [HQ2E.out, ← hq2e] at this
          exact this
        generalize hM2 : (((M0 a' b' sb' k ls k).run (ps.take kk)).1.run (ps.drop kk)).1 = M2 at HLK HR2
        clear hrun hlike happ hln hq1e hq2e hM1 hM2 hA3 HA3 HA0 HQ1E HQ2E t1l t2l HP HKK
        refine HRUN.out.mono ?_
        rintro e wa ⟨rfl, hqa⟩
        have HQA := Lib.hid (hqa.later (Made.drewN wa 1))
        clear hqa HRUN
        have hws : IntKind.i64.wrap (q1 + q2) = q1 + q2 := by rw [IntKind.wrap_i64]; omega
        go_wp2_with fail
        go_region_held3 (fun _ => True) (trivial) (first | (go_at_call 39; refine (HR1.out _ HQA.out).mono ?_; rintro e wb ⟨rfl, HQB⟩; clear HQA) | (go_at_call 39; refine (HR2.out _ HQB.out).mono ?_; rintro e wd ⟨rfl, HQD⟩))
        have HNC : Hid (n' ≤ c') := hnc'
        clear HR1 HR2 HQB hq1 hq2 hqq hkn HSL1 HSL2 hnc' hws
        go_wp2_with fail
        go_loopw [115] (fun iv wr => ∃ (i : Nat), i ≤ k ∧ iv = .int .i64 i ∧ Hid (Made wd wr)) (fun iv _ => (k - intOf iv).toNat)
        case atStart => exact ⟨0, by omega, rfl, Lib.hid (Made.refl _)⟩
        case round =>
          obtain ⟨i, hi, rfl, HMr⟩ := hrel
          by_cases hik : i < k
          · obtain ⟨ad1, ad2, p1, p2, u1, u2, s, bb, v, rfl, rfl, d1, d2, x1, x2, g1, g2, z1, z2⟩ := (HQD.out.later HMr.out).at HLK.out hik HT1.out HT2.out
            have HS1 : Hid (∀ N, Calls Try.prog 40 #[.pointer (some ⟨p1, 0, none⟩)] (wr.drewN N) fun e w' => e = .returned (.int .i64 (s : Int)) ∧ wr.drewN N = w') := fun N => steps_of (v := u1) g1
            have HS2 : Hid (∀ N, Calls Try.prog 40 #[.pointer (some ⟨p2, 0, none⟩)] (wr.drewN N) fun e w' => e = .returned (.int .i64 (s : Int)) ∧ wr.drewN N = w') := fun N => steps_of (v := u2) g2
            have HE1 : Hid (∀ N, Calls Try.prog 41 #[.pointer (some ⟨p1, 0, none⟩)] (wr.drewN N) fun e w' => e = .returned (.bool bb) ∧ wr.drewN N = w') := fun N => ended_of (s := s) z1 g1
            have HE2 : Hid (∀ N, Calls Try.prog 41 #[.pointer (some ⟨p2, 0, none⟩)] (wr.drewN N) fun e w' => e = .returned (.bool bb) ∧ wr.drewN N = w') := fun N => ended_of (s := s) z2 g2
            have i0 : (0 : Int) ≤ (i : Int) := by omega
            have i1 : (i : Int) < (k : Int) := by omega
            have HPN : Hid (p1 = p2 ∨ p1 ≠ p2) := by show _ ∨ _; omega
            clear g1 g2 z1 z2
            go_wp2_with fail
            go_quiet (first | (go_at_call_of 40 (Value.pointer (some ⟨p1, 0, none⟩)); exact Calls.quiet_of_same ((HS1.out _).mono fun e w' h => ⟨h.1, h.2.symm⟩)) | (go_at_call_of 40 (Value.pointer (some ⟨p2, 0, none⟩)); exact Calls.quiet_of_same ((HS2.out _).mono fun e w' h => ⟨h.1, h.2.symm⟩)) | (go_at_call_of 41 (Value.pointer (some ⟨p1, 0, none⟩)); exact Calls.quiet_of_same ((HE1.out _).mono fun e w' h => ⟨h.1, h.2.symm⟩)) | (go_at_call_of 41 (Value.pointer (some ⟨p2, 0, none⟩)); exact Calls.quiet_of_same ((HE2.out _).mono fun e w' h => ⟨h.1, h.2.symm⟩)))
            have HM9 := Lib.hid (below_drewN HMr.out nq)
            clear HS1 HS2 HE1 HE2 d1 d2 x1 x2
            go_wp2_with fail
            go_roundw
            case rel => exact ⟨i + 1, by omega, by go_num, HM9⟩
            case measure => simp [intOf]; omega
          · obtain rfl : i = k := by omega
            have HQE := Lib.hid (HQD.out.later HMr.out)
            obtain ⟨xs, hxs⟩ : ∃ xs, xs = M1.σ.xs := ⟨_, rfl⟩
            have HA1 : Hid (Arena wr a b M1.σ.c xs) := by rw [hxs]; exact HQE.out.f1.ar
            have HXL : Hid (xs.length ≤ 1048576) := by rw [hxs]; exact HQE.out.f1.len
            have HA2 : Hid (Arena wr a' b' M2.σ.c xs) := by
              obtain ⟨rs2, L2, g1, g2, g3, _⟩ := HQE.out.r2
              have h := g3.inv.ar
              rw [← HLK.out.like.xs, ← hxs] at h
              exact h
            have HM11 := Lib.hid HQE.out.bel
            obtain ⟨q, hq⟩ : ∃ q, q = xs.length := ⟨_, rfl⟩
            have HQ := Lib.hid hq
            have HAL1 : Hid (Calls Try.prog 42 #[.pointer (some ⟨a, 0, none⟩)] wr fun e w' => e = .returned (.slice (some ⟨wr.heap.size, 0, none⟩) q q) ∧ w'.heap[wr.heap.size]? = some (.cells (row xs) 22 (0, 0)) ∧ Made wr w') := by
              have h := All_c HA1.out HXL.out
              rw [← hq] at h
              exact h
            have hqb : (q : Int) ≤ 1048576 := by have := HXL.out; omega
            clear hq hxs HQE HQD
            go_wp2_with fail
            refine HAL1.out.mono ?_
            rintro e w12 ⟨rfl, hrow, hm12⟩
            have hgl := (Array.getElem?_eq_some_iff.1 hrow).1
            have HRW := Lib.hid hrow
            have HA12 := Lib.hid (HA2.out.later hm12)
            have HM12 := Lib.hid (Below.trans HM11.out (Below.mono hm12 HM11.out.size))
            clear hrow hm12 HAL1 HA1 HA2 HM11
            generalize wr.heap.size = g1 at *
            clear HMr
            go_wp2_with fail
            go_loopw [157] (fun iv wz => ∃ j : Nat, j ≤ q ∧ iv = .int .i64 j ∧ Hid (Made w12 wz)) (fun iv _ => (q - intOf iv).toNat)
            case atStart => exact ⟨0, by omega, rfl, Lib.hid (Made.refl _)⟩
            case round =>
              obtain ⟨j, hj, rfl, HMz⟩ := hrel
              by_cases hjq : j < q
              · have hjx : j < xs.length := by have := HQ.out; omega
                have j0 : (0 : Int) ≤ (j : Int) := by omega
                have j1 : (j : Int) < (q : Int) := by omega
                have cA : wr.cell? ⟨g1, j, none⟩ = some (.int .u64 xs[j]) := by
                  rw [cell_of_row _ _ _ _ _ _ ((HMz.out.block _ hgl).trans HRW.out)]
                  exact row_at' hjx
                have HAL2 : Hid (Calls Try.prog 42 #[.pointer (some ⟨a', 0, none⟩)] wr fun e w' => e = .returned (.slice (some ⟨wr.heap.size, 0, none⟩) q q) ∧ w'.cell? ⟨wr.heap.size, j, none⟩ = some (.int .u64 xs[j]) ∧ Made wr w') := by
                  have h := All_c (HA12.out.later HMz.out) HXL.out
                  rw [← HQ.out] at h
                  exact h.mono fun e w' ⟨h1, h2, h3⟩ => ⟨h1, by rw [cell_of_row _ _ _ _ _ _ h2]; exact row_at' hjx, h3⟩
                generalize xs[j] = v at cA HAL2
                clear hjx
                go_wp2_with fail
                refine HAL2.out.mono ?_
                rintro e w13 ⟨rfl, cB, hm13⟩
                have HM13 := Lib.hid (Made.trans HMz.out hm13)
                clear hm13 HAL2
                go_wp2_with fail
                go_roundw
                case rel => exact ⟨j + 1, by omega, by go_num, HM13⟩
                case measure => simp [intOf]; omega
              · obtain rfl : j = q := by omega
                have HF := Lib.hid (Below.trans HM12.out (Below.mono HMz.out HM12.out.size))
                go_wp2_with fail
                go_ret
                exact ⟨rfl, HF.out⟩
set_option maxRecDepth 100000 in
set_option maxHeartbeats 400000 in
theorem pieces_far (A A' : Option Addr) (n c n' c' : Nat) (ls : List (List Acc)) (cut : Int) (hn : Hid (n = ls.length)) (hnb : (n : Int) ≤ 9223372036854775807) (hnb' : (n' : Int) ≤ 9223372036854775807) (h : few ls = false ∨ (few ls = true ∧ 200 < n')) (w : World) (hl : Hid (RdAA w w.heap.size A ls)) :
    Calls Try.prog 7 #[.slice A n c, .slice A' n' c', .int .u8 cut] w fun e w' => e = .returned (.bool true) ∧ Made w w' := by
  rcases h with h | ⟨h, h2⟩
  · have HF := Lib.hid h
    clear h
    go_enter Try.func7, Try.ntmps7
    go_wp2_with fail
    refine (Spk7.speaks_c _).mono ?_
    rintro e w0 ⟨rfl, hm0⟩
    have HM0 := Lib.hid hm0
    clear hm0
    go_wp2_with fail
    refine (few_c A n c ls w0 w.heap.size hn hnb (hl.out.later HM0.out)).mono ?_
    rintro e w0' ⟨rfl, rfl⟩
    rw [HF.out]
    go_wp2_with fail
    refine (Spk7.speaks_c _).mono ?_
    rintro e w1 ⟨rfl, hm1⟩
    have HM1 := Lib.hid (Made.trans HM0.out hm1)
    clear hm1
    go_wp2_with fail
    go_ret
    exact ⟨rfl, HM1.out⟩
  · have HF := Lib.hid h
    have h2' : 200 < (n' : Int) := by omega
    clear h
    go_enter Try.func7, Try.ntmps7
    go_wp2_with fail
    refine (Spk7.speaks_c _).mono ?_
    rintro e w0 ⟨rfl, hm0⟩
    have HM0 := Lib.hid hm0
    clear hm0
    go_wp2_with fail
    refine (few_c A n c ls w0 w.heap.size hn hnb (hl.out.later HM0.out)).mono ?_
    rintro e w0' ⟨rfl, rfl⟩
    rw [HF.out]
    go_wp2_with fail
    refine (Spk7.speaks_c _).mono ?_
    rintro e w1 ⟨rfl, hm1⟩
    have HM1 := Lib.hid (Made.trans HM0.out hm1)
    clear hm1
    go_wp2_with fail
    go_ret
    exact ⟨rfl, HM1.out⟩
theorem rd_of_slk {w : World} {v : Value} {xs : List Int} (h : SlK .i64 w v xs) : ∃ A c, v = .slice A xs.length c ∧ xs.length ≤ c ∧ c ≤ maxLen ∧ Rd .i64 w w.heap.size A xs := by
  rcases h with ⟨rfl, rfl⟩ | ⟨a, cap, rfl, h1, h2, h3⟩
  · exact ⟨none, 0, rfl, Nat.le_refl _, Nat.zero_le _, Rd.nil _ _ _ _⟩
  · refine ⟨some a, cap, rfl, h1, h2, fun i hi => ⟨a, rfl, ?_, h3 i hi⟩⟩
    have := Go.block_lt_of_cell (h3 i hi)
    rw [add_block] at this
    exact this
theorem pieces (v : Value) (ls : List (List Acc)) (u : Value) (ps : List Int) (cut : Int) (w : World) (hv : SlAA w v ls) (hu : SlK .i64 w u ps) (_ : ∀ z ∈ ps, (Lit.int .i64 z).wf = true) (hc : (Lit.int .u8 cut).wf = true) :
    Calls Try.prog 7 #[v, u, .int .u8 cut] w fun e w' => e = .returned (.bool true) ∧ Made w w' := by
  obtain ⟨A, c, rfl, h1, h2, h3⟩ := hv.rd
  obtain ⟨A', c', rfl, g1, g2, g3⟩ := rd_of_slk hu
  unfold maxLen at g2
  have hcw : 0 ≤ cut ∧ cut ≤ 255 := by
    simp [Lit.wf, IntKind.min, IntKind.max, IntKind.signed, IntKind.bits] at hc
    omega
  clear hc
  by_cases hf : few ls = true
  · by_cases h200 : ps.length ≤ 200
    · exact pieces_loop A A' ls.length c ps.length c' ls ps cut rfl ((few_iff ls).1 hf).2 hf rfl h200 g1 w h3 g3 hcw.1 hcw.2
    · exact pieces_far A A' ls.length c ps.length c' ls cut rfl (by omega) (by omega) (Or.inr ⟨hf, by omega⟩) w h3
  · exact pieces_far A A' ls.length c ps.length c' ls cut rfl (by omega) (by omega) (Or.inl (by simpa using hf)) w h3
end Go.Proofs.Ythllplocbciepaa.Cod.Seven
