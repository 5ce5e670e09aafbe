/- InboxOrder, walked. -/
import Derived.Test.YtndpkonihcebeaaOrd9
import Derived.Deep.DeepCutAuto
import Derived.Deep.QuietTactic
import Derived.BigQuiet
namespace Go.Proofs.Ytndpkonihcebeaa.Kod.Nine
open Go.RowKit Go.Proofs.Ytndpkonihcebeaa Go.Proofs.Ytndpkonihcebeaa.Cell Go.Proofs.Ytndpkonihcebeaa.Wd
set_option linter.unusedVariables false
set_option linter.unusedSimpArgs false

set_option maxRecDepth 100000 in
set_option maxHeartbeats 400000 in
theorem order9_far (N0 N1 N2 N3 Nd : Int) (A' : Option Addr) (n' c' : Nat) (hnb' : (n' : Int) ≤ 9223372036854775807) (h : (400 : Int) < (n' : Int)) (w : World) :
    Calls Try.prog 3 #[.agg #[.int .u8 N0, .int .u8 N1, .int .u8 N2, .int .u8 N3], .int .u8 Nd, .slice A' n' c'] w fun e w' => e = .returned (.bool true) ∧ Made w w' := by
  have HM : Hid (Made w (w.alloc (.cells #[.int .u8 N0, .int .u8 N1, .int .u8 N2, .int .u8 N3] 22))) := (Made.refl w).alloc (Nat.le_refl _) _
  go_enter Try.func3, Try.ntmps3
  go_wp2_with fail
  refine (speaks_c _).mono ?_
  rintro e w0 ⟨rfl, hm0⟩
  have HM0 := Lib.hid (Made.trans HM.out hm0)
  clear hm0
  go_wp2_with fail
  refine (speaks_c _).mono ?_
  rintro e w1 ⟨rfl, hm1⟩
  have HM1 := Lib.hid (Made.trans HM0.out hm1)
  clear hm1
  go_wp2_with fail
  go_ret
  exact ⟨rfl, HM1.out⟩
set_option maxRecDepth 100000 in
set_option maxHeartbeats 4000000 in
theorem order9_near (N0 N1 N2 N3 Nd n' c' : Nat) (A' : Option Addr) (ps : List Int) (h0 : N0 < 256) (h1 : N1 < 256) (h2 : N2 < 256) (h3 : N3 < 256) (h4 : Nd < 256) (hn4' : n' ≤ 400) (hn' : Hid (n' = ps.length)) (w : World) (hp : Hid (RdV w w.heap.size A' (ps.map (.int .i64)))) :
    Calls Try.prog 3 #[.agg #[.int .u8 (N0 : Int), .int .u8 (N1 : Int), .int .u8 (N2 : Int), .int .u8 (N3 : Int)], .int .u8 (Nd : Int), .slice A' n' c'] w fun e w' => e = .returned (.bool true) ∧ Made w w' := by
  have HFR := fun w => Lib.hid (fresh_c 20 (by omega) w)
  have HE := Lib.hid elem_int9
  have HET := Lib.hid elem_task9
  have j400 : (n' : Int) ≤ 400 := by omega
  obtain ⟨wb, hwb⟩ : ∃ wb, wb = w.alloc (.cells #[.int .u8 (N0 : Int), .int .u8 (N1 : Int), .int .u8 (N2 : Int), .int .u8 (N3 : Int)] 22) := ⟨_, rfl⟩
  have HMB : Hid (Made w wb) := by show Made _ _; rw [hwb]; exact (Made.refl w).alloc (Nat.le_refl _) _
  have HC4 : Hid (wb.heap[w.heap.size]? = some (.cells #[.int .u8 (N0 : Int), .int .u8 (N1 : Int), .int .u8 (N2 : Int), .int .u8 (N3 : Int)] 22 (0, 0))) := by show _ = _; rw [hwb]; exact heap_alloc_new _ _
  have HWB := Lib.hid hwb
  clear hwb
  obtain ⟨nd, hnd, hnd9⟩ : ∃ k : Nat, 1 + (Nd : Int) % 8 = (k : Int) ∧ k ≤ 8 := ⟨1 + Nd % 8, by omega, by omega⟩
  have HND := Lib.hid hnd
  clear hnd
  go_enter Try.func3, Try.ntmps3
  go_wp2_with fail
  rw [← HWB.out]
  refine (speaks_c _).mono ?_
  rintro e w0 ⟨rfl, hm0⟩
  have HM0 := Lib.hid hm0
  clear hm0
  go_wp2_with fail
  refine (HFR _).out.mono ?_
  rintro e w1 ⟨a, b, ba, bn, rfl, hA, l1, l2, l3, l4, n1, n2, n3, n4, hba, hbn, hm1⟩
  have hl0 := HM0.out.size
  obtain ⟨⟨s0, s1, s2, s3, s4, s5, s6⟩, HDR⟩ := Mid9.start (B := wb.heap.size) (w0 := wb) hA (by omega) (by omega) n1 n2 n3 n4 hba hbn (Made.trans HM0.out hm1) (Made.trans HM0.out hm1).size (nd := nd) (by omega) [N0 % 6, N1 % 6, N2 % 6, N3 % 6]
  have HIX : Hid (∀ i : Nat, i < 4 → ∃ Ni : Nat, (#[Value.int .u8 (N0 : Int), .int .u8 (N1 : Int), .int .u8 (N2 : Int), .int .u8 (N3 : Int)] : Array Value)[i]? = some (.int .u8 (Ni : Int)) ∧ Ni < 256 ∧ (Ni : Int) % 6 = (([N0 % 6, N1 % 6, N2 % 6, N3 % 6].getD i 0 : Nat) : Int)) := fun i hi => four_idx h0 h1 h2 h3 hi
  have HM5 : Hid (∀ j : Nat, [N0 % 6, N1 % 6, N2 % 6, N3 % 6].getD j 0 ≤ 5) := four_le
  generalize [N0 % 6, N1 % 6, N2 % 6, N3 % 6] = ms at *
  unfold bxf at HDR s0 s1 s2 s3 s4 s5 s6
  clear hA l1 l2 l3 l4 n1 n2 n3 n4 hba hbn hm1 HFR HM0 hl0
  go_wp2_with fail
  rw [HND.out]
  refine HDR.out.mono ?_
  rintro e w2 ⟨v, rfl, hv, HNW⟩
  clear HDR s0 s1 s2 s3 s4 s5 s6
  go_wp2_with fail
  refine HNW.out.mono ?_
  rintro e w3 ⟨tb, rfl, HMID⟩
  clear HNW
  obtain ⟨hq1, hq2⟩ := HMID.out.le
  have hsb : w.heap.size < wb.heap.size := lt_of_at HC4.out
  have hrow4 := (hq2.block _ hsb).trans HC4.out
  have r0 := cell_of_row _ _ 0 _ _ _ hrow4
  have r1 := cell_of_row _ _ 1 _ _ _ hrow4
  have r2 := cell_of_row _ _ 2 _ _ _ hrow4
  have r3 := cell_of_row _ _ 3 _ _ _ hrow4
  simp only [List.getElem?_toArray, List.getElem?_cons_zero, List.getElem?_cons_succ] at r0 r1 r2 r3
  clear hrow4 hq2 hq1
  go_upto_region 9 with fail
  clear r0 r1 r2 r3
  generalize hR4 : (#[Value.int .u8 (N0 : Int), .int .u8 (N1 : Int), .int .u8 (N2 : Int), .int .u8 (N3 : Int)] : Array Value) = R4 at *
  clear hR4
  go_loopw [10, 47] (fun tv iv wr => ∃ (i : Nat) (At : Option Addr) (nt ct : Nat), tv = .slice At nt ct ∧ iv = .int .i64 (i : Int) ∧ i ≤ 4 ∧ Hid (nt = i + 1) ∧ Hid (Mid9 a b ba bn wb.heap.size w1.heap.size (w1.heap.size + 1) (kdr 0 nd) ms i (.slice At nt ct) (.slice none 0 0) [] [] wb wr)) (fun _ iv _ => (4 - intOf iv).toNat)
  case atStart => exact ⟨0, _, _, _, rfl, rfl, by omega, Lib.hid rfl, HMID⟩
  case round =>
    clear HMID
    obtain ⟨i, At, nt, ct, rfl, rfl, hi, HNN, HMI⟩ := hrel
    by_cases hlt : i < 4
    · obtain ⟨Ni, hR, hNi, hmod⟩ := HIX.out i hlt
      have hidx : ∀ w : World, (Instr.index 22 (.agg R4) (.int .i64 (i : Int))).run Try.prog w = .ok (.int .u8 (Ni : Int)) w := fun w => run_index_agg (n := 4) (e := 5) Try.underlying22 Try.underlying5 rfl (by kernel_rfl) R4 .i64 i _ (by omega) (by omega) hR w
      have i0 : (0 : Int) ≤ (i : Int) := by omega
      have i1 : (i : Int) < 4 := by omega
      have m0 : (0 : Int) ≤ (Ni : Int) := by omega
      have m1 : (Ni : Int) < 256 := by omega
      obtain ⟨m, hm⟩ : ∃ m, m = ms.getD i 0 := ⟨_, rfl⟩
      have hm5 : m ≤ 5 := by rw [hm]; exact HM5.out i
      rw [← hm] at hmod
      have HMOD := Lib.hid hmod
      have HMM := Lib.hid hm
      clear hmod hR hNi hm
      go_wp2_with fail
      rw [HMOD.out]
      clear hidx m0 m1 HMOD
      obtain ⟨wo, rfl⟩ : ∃ wo : World, wo = wr := ⟨_, rfl⟩
      have m6 : (m : Int) < 6 := by omega
      go_loopw [13, 54] (fun v kv wz => ∃ (k : Nat) (A3 : Option Addr) (c3 : Nat), v = .slice A3 k c3 ∧ kv = .int .i64 (k : Int) ∧ k ≤ m ∧ Hid (Grw wo wz A3 c3 k (nums9 (5 * (i : Int)) k))) (fun _ kv _ => (m - intOf kv).toNat)
      case atStart => exact ⟨0, none, 0, rfl, rfl, by omega, Grw.start wo⟩
      case round =>
        obtain ⟨k, A3, c3, rfl, rfl, hk, HK⟩ := hrel
        by_cases hkm : k < m
        · have k1 : (k : Int) < (m : Int) := by omega
          have k2 : (k : Int) < 6 := by omega
          have k0 : (0 : Int) ≤ (k : Int) := by omega
          have hsz := HK.out.bel.size
          go_wp2_with (at_builtin; (refine wpList_app _ rfl (.tmp 57) (.tmp 62) 23 rfl wo.heap.size 3 (.int .i64 0) 8 HE.out (.slice A3 k c3) k ((nums9 (5 * (i : Int)) k).map (.int .i64)) (by simp [Act.eval, Act.put]) (World.ownsRow.alloc HK.out.row _) (some ⟨wr.heap.size, 0, none⟩) 1 1 [.int .i64 (5 * (i : Int) + (k : Int))] (by simp [Act.eval, Act.put]) (Reads.row (cs := #[.int .i64 (5 * (i : Int) + (k : Int))]) (heap_alloc_new wr _) rfl) (by simp [Value.oneCell']) (by unfold maxLen; omega) (by omega) (by simp only [World.size_alloc]; omega) ?_; intro A5 c5 w5 hown hgrow _; have HK5 := Lib.hid (HK.out.app hown hgrow); clear hown hgrow))
          go_roundw
          case rel => exact ⟨k + 1, A5, c5, rfl, by first | rfl | go_num | (congr 1; omega), by omega, by have h := HK5.out; rw [show nums9 (5 * (i : Int)) (k + 1) = nums9 (5 * (i : Int)) k ++ [5 * (i : Int) + (k : Int)] by rw [nums9_succ]]; exact h⟩
          case measure => simp [intOf]; omega
        · obtain rfl : m = k := by omega
          have HMV : Hid (nums9 (5 * (i : Int)) m = mine ms i) := by show _ = _; unfold mine; rw [← HMM.out]
          have hML : (mine ms i).length = m := by rw [← HMV.out, nums9_len]
          obtain ⟨HN, hc3, hc4, hrd⟩ := HMI.out.note HK.out
          rw [HMV.out] at HN
          obtain ⟨⟨s0, s1, s2, s3, s4, s5, s6⟩, HPU⟩ := Mid9.puts hlt HM5.out HMM.out ⟨hc3, hc4⟩ HN
          unfold bxf at HPU
          clear HN hrd HK hkm hk
          go_wp2_with fail
          refine HPU.out.mono ?_
          rintro e w6 ⟨v6, rfl, hv6, HNW⟩
          clear HPU s0 s1 s2 s3 s4 s5 s6
          go_wp2_with fail
          refine HNW.out.mono ?_
          rintro e w7 ⟨tb7, ts7, rfl, HOW7, hle7, HNX⟩
          clear HNW
          go_wp2_with (at_builtin; (refine wpList_app _ rfl (.tmp 65) (.tmp 70) 42 rfl wb.heap.size 37 (.pointer none) 8 HET.out (.slice At nt ct) (i + 1) ts7 (by simp [Act.eval, Act.put]) (World.ownsRow.alloc HOW7.out _) (some ⟨w7.heap.size, 0, none⟩) 1 1 [.pointer (some ⟨tb7, 0, none⟩)] (by simp [Act.eval, Act.put]) (Reads.row (cs := #[.pointer (some ⟨tb7, 0, none⟩)]) (heap_alloc_new w7 _) rfl) (by simp [Value.oneCell']) (by unfold maxLen; omega) (by omega) (by simp only [World.size_alloc]; omega) ?_; intro A8 c8 w8 hown hgrow hat; have HM8 := Lib.hid (HNX.out _ _ _ _ hown hgrow hat); clear hown hgrow hat))
          go_roundw
          case rel => exact ⟨i + 1, _, _, _, rfl, by go_num, by omega, Lib.hid rfl, HM8⟩
          case measure => simp [intOf]; omega
    · obtain rfl : i = 4 := by omega
      obtain ⟨rfl, -, -, -, q3, q4, HPK⟩ := Mid9.seal (I := Ord9) HM5.out (ord_start HM5.out hnd9) HMI.out
      have HRN := Lib.hid (Pk9.run (N := 1250) (n := 2500) (ct := ct) (n2 := n') (c2 := c') (A2 := A') keepOrd ps (HPK.lower (by have := hn'.out; omega) (by have := hn'.out; omega)) (fun i v hv => by
        obtain ⟨d, e1, e2, e3⟩ := hp.out.later HMB.out i v hv
        exact ⟨d, e1, Nat.lt_of_lt_of_le e2 HMB.out.size, e3⟩) hn')
      clear HPK HMI HNN
      go_wp2_with fail
      refine HRN.out.mono ?_
      rintro e w5 ⟨⟨z, rfl⟩, HPR⟩
      have HP1 : Hid (Pk9 a b ba bn wb.heap.size w1.heap.size (w1.heap.size + 1) (1250 - 250 * 0) (2500 - 500 * 0) (allm ms 4) Ord9 (fun j => 5 ≤ j + 0 ∧ j < 5) At [(none, ([] : List Int).map (.int .i64))] wb w5) := HPR.out.dns (fun j hj => by omega)
      clear HPR HRN
      go_wp2_with fail
      go_loopw [78] (fun iv wr => ∃ (i : Nat), iv = .int .i64 (i : Int) ∧ i ≤ 5 ∧ Hid (Pk9 a b ba bn wb.heap.size w1.heap.size (w1.heap.size + 1) (1250 - 250 * i) (2500 - 500 * i) (allm ms 4) Ord9 (fun j => 5 ≤ j + i ∧ j < 5) At [(none, ([] : List Int).map (.int .i64))] wb wr)) (fun iv _ => (5 - intOf iv).toNat)
      case atStart => exact ⟨0, rfl, by omega, HP1⟩
      case round =>
        clear HP1
        obtain ⟨i, rfl, hi, HPI⟩ := hrel
        by_cases hlt : i < 5
        · obtain ⟨p, hpi⟩ : ∃ p : Nat, p + i = 4 := ⟨4 - i, by omega⟩
          obtain ⟨d, tb5, rfl, hc5, HF⟩ := Pk9.fin (N := 1250 - 250 * (i + 1)) (n := 2500 - 500 * (i + 1)) (p := p) (most := 3000) keepOrd (fun _ _ _ h => h.i8) (by omega) (by omega) (HPI.out.lower (by omega) (by omega))
          have i0 : (0 : Int) ≤ (i : Int) := by omega
          have i1 : (i : Int) < 5 := by omega
          have p0 : (0 : Int) ≤ (p : Int) := by omega
          have p1 : (p : Int) < 5 := by omega
          have hip : (4 : Int) - (i : Int) = (p : Int) := by omega
          clear HPI
          go_wp2_with fail
          refine HF.out.mono ?_
          rintro e w5 ⟨rfl, HP5⟩
          have HP6 := Lib.hid (HP5.out.dns (dn' := fun j => 5 ≤ j + (i + 1) ∧ j < 5) (fun j hj => by omega))
          clear HF HP5 hc5 hip
          go_wp2_with fail
          go_roundw
          case rel => exact ⟨i + 1, by go_num, by omega, HP6⟩
          case measure => simp [intOf]; omega
        · obtain rfl : i = 5 := by omega
          obtain ⟨bl, fl, got, ends, hnd⟩ := Pk9.ends (J := fun A => Sg A.got 0 A.ends) (fun _ _ _ h => h.sg) HPI.out (fun j hj => by omega)
          have hsg : Sg got 0 ends := by
            obtain ⟨A, e1, e2, _, e3⟩ := hnd.inv
            rw [← e1, ← e2]
            exact e3
          obtain ⟨Ag, cg, Ae, ce, hg0, hg1, hrg, hre⟩ := hnd.tk
          have hfw := hnd.few
          have hrng : ∀ x ∈ got, 0 ≤ x ∧ x < 20 := fun x hx => hnd.rng x (hnd.perm.mem_iff.1 (by simp [hx]))
          obtain ⟨ng, hng⟩ : ∃ ng, ng = got.length := ⟨_, rfl⟩
          obtain ⟨ne, hne⟩ : ∃ ne, ne = ends.length := ⟨_, rfl⟩
          rw [← hng] at hg0 hrg hfw
          rw [← hne] at hg1 hre
          have hel := hnd.elen
          rw [← hne] at hel
          unfold maxLen at hel
          have hne9 : (ne : Int) ≤ 9223372036854775807 := by omega
          have hng20 : (ng : Int) ≤ 20 := by omega
          have HSG := Lib.hid hsg
          have HRG := Lib.hid hrg
          have HRE := Lib.hid hre
          have HRNG := Lib.hid hrng
          have HNG := Lib.hid hng
          have HNE := Lib.hid hne
          have HBL := Lib.hid hnd.bel
          obtain ⟨wz, rfl⟩ : ∃ wz : World, wz = wr := ⟨_, rfl⟩
          have HG0 := Lib.hid hg0
          clear hsg hrg hre hrng hng hne hnd hel hfw HPI
          go_wp2_with fail
          go_loopw [16, 97] (fun fv qv wr => ∃ (f q : Nat), fv = .int .i64 (f : Int) ∧ qv = .int .i64 (q : Int) ∧ q ≤ ne ∧ Hid (Sg got f (ends.drop q)) ∧ Hid (Made wz wr)) (fun _ qv _ => (ne - intOf qv).toNat)
          case atStart => exact ⟨0, 0, rfl, rfl, by omega, HSG.out, Made.refl _⟩
          case round =>
            clear HSG
            obtain ⟨f, q, rfl, rfl, hq, HSQ, HMZ⟩ := hrel
            by_cases hlt : q < ne
            · have hqe : q < ends.length := by have := HNE.out; omega
              have hs := HSQ.out
              rw [List.drop_eq_getElem_cons hqe] at hs
              obtain ⟨u1, u2, u3, u4, u5⟩ := hs
              obtain ⟨en, hen⟩ : ∃ en : Nat, ends[q] = (en : Int) := ⟨ends[q].toNat, by omega⟩
              rw [hen] at u1 u3 u4 u5
              simp only [Int.toNat_natCast] at u1 u3 u4 u5
              obtain ⟨de, rfl, hce⟩ := (reads_made HRE.out HMZ.out).2 q (.int .i64 (en : Int)) (by rw [List.getElem?_map, List.getElem?_eq_getElem hqe, hen]; rfl)
              have i0 : (0 : Int) ≤ (q : Int) := by omega
              have i1 : (q : Int) < (ne : Int) := by omega
              have hef : f ≤ en := u1
              have heg : en ≤ ng := by have := HNG.out; omega
              have HU4 := Lib.hid u4
              have HU5 := Lib.hid u5
              clear u1 u2 u3 u4 u5 hen HSQ
              go_wp2_with fail
              go_loopw [19] (fun iv wr => ∃ (i : Nat), iv = .int .i64 (i : Int) ∧ f ≤ i ∧ i ≤ en ∧ Hid (Made wz wr)) (fun iv _ => (en - intOf iv).toNat)
              case atStart => exact ⟨f, rfl, by omega, hef, HMZ⟩
              case round =>
                clear hce
                obtain ⟨i, rfl, hif, hie, HMI2⟩ := hrel
                by_cases hlt2 : i < en
                · have a1 : (i : Int) < (en : Int) := by omega
                  have a0 : (0 : Int) ≤ (i : Int) := by omega
                  have a2 : (i : Int) < (ng : Int) := by omega
                  obtain ⟨y, hy⟩ : ∃ y, got[i]? = some y := ⟨_, List.getElem?_eq_getElem (by have := HNG.out; omega)⟩
                  have hyr := HRNG.out y (List.mem_of_getElem? hy)
                  have HY := Lib.hid hy
                  clear hy
                  go_wp2_with fail
                  go_loopw [20] (fun kv wr => ∃ (k : Nat), kv = .int .i64 (k : Int) ∧ f ≤ k ∧ k ≤ i ∧ Hid (Made wz wr)) (fun kv _ => (i - intOf kv).toNat)
                  case atStart => exact ⟨f, rfl, by omega, hif, HMI2⟩
                  case round =>
                    obtain ⟨k, rfl, hkf, hki, HMK⟩ := hrel
                    by_cases hlt3 : k < i
                    · have b1 : (k : Int) < (i : Int) := by omega
                      have b0 : (0 : Int) ≤ (k : Int) := by omega
                      have b2 : (k : Int) < (ng : Int) := by omega
                      obtain ⟨x, hx⟩ : ∃ x, got[k]? = some x := ⟨_, List.getElem?_eq_getElem (by have := HNG.out; omega)⟩
                      have hxr := HRNG.out x (List.mem_of_getElem? hx)
                      obtain ⟨dg, rfl, hcx⟩ := (reads_made HRG.out HMK.out).2 k (.int .i64 x) (by rw [List.getElem?_map, hx]; rfl)
                      obtain ⟨dg', hdg, hcy⟩ := (reads_made HRG.out HMK.out).2 i (.int .i64 y) (by rw [List.getElem?_map, HY.out]; rfl)
                      obtain rfl := Option.some.inj hdg
                      have hco : wr.cell? ⟨w1.heap.size + 1, 0, none⟩ = some (.slice (some dg) ng cg) := (HMK.out.cell (Go.block_lt_of_cell HG0.out)).trans HG0.out
                      have hxy := HU4.out i k hkf hlt3 hlt2
                      rw [List.getD_eq_getElem?_getD, List.getD_eq_getElem?_getD, hx, HY.out] at hxy
                      simp only [Option.getD_some] at hxy
                      have x0 := hxr.1
                      have x1 := hxr.2
                      have y0 := hyr.1
                      have y1 := hyr.2
                      clear hx hxr hdg
                      by_cases he : x / 5 = y / 5
                      · have hlt4 := hxy he
                        have e1 : (x / 5 == y / 5) = true := by simp [he]
                        have e2 : decide (x < y) = false := by simp; omega
                        have e3 : ¬ x < y := by omega
                        clear hxy hlt4
                        go_wp2_with fail
                        go_quiet (fail)
                        have HMQ : Hid (Made wz (wr.drewN nq)) := Made.trans HMK.out (Made.drewN wr nq)
                        go_wp2_with fail
                        refine ⟨?_, ?measure⟩
                        repeat apply Exists.intro
                        refine ⟨?rel, rfl⟩
                        case rel => exact ⟨k + 1, by go_num, by omega, by omega, HMQ⟩
                        case measure => simp [intOf]; omega
                      · have e1 : (x / 5 == y / 5) = false := by simpa using he
                        clear hxy
                        go_wp2_with fail
                        go_quiet (fail)
                        have HMQ : Hid (Made wz (wr.drewN nq)) := Made.trans HMK.out (Made.drewN wr nq)
                        go_wp2_with fail
                        go_roundw
                        case rel => exact ⟨k + 1, by go_num, by omega, by omega, HMQ⟩
                        case measure => simp [intOf]; omega
                    · obtain rfl : k = i := by omega
                      go_wp2_with fail
                      go_roundw
                      case rel => exact ⟨k + 1, by go_num, by omega, by omega, HMK⟩
                      case measure => simp [intOf]; omega
                · obtain rfl : i = en := by omega
                  go_wp2_with fail
                  go_roundw
                  case rel => exact ⟨i, q + 1, rfl, by go_num, by omega, HU5, HMI2⟩
                  case measure => simp [intOf]; omega
            · obtain rfl : q = ne := by omega
              have HF : Hid (Made w wr) := Made.trans HMB.out (Below.trans HBL.out (Below.mono HMZ.out HBL.out.size))
              go_wp2_with fail
              go_ret
              exact ⟨rfl, HF.out⟩
theorem order9 (zs : List Int) (nd : Int) (u : Value) (ps : List Int) (w : World) (hl : zs.length = 4) (hz : ∀ z ∈ zs, (Lit.int .u8 z).wf = true) (hnd : (Lit.int .u8 nd).wf = true) (hu : SlK .i64 w u ps) (_ : ∀ z ∈ ps, (Lit.int .i64 z).wf = true) :
    Calls Try.prog 3 #[.agg (zs.map (Value.int .u8)).toArray, .int .u8 nd, u] w fun e w' => e = .returned (.bool true) ∧ Made w w' := by
  obtain ⟨z0, z1, z2, z3, rfl⟩ := four9 zs hl
  obtain ⟨N0, rfl, h0⟩ := u8_of9' (hz z0 (by simp))
  obtain ⟨N1, rfl, h1⟩ := u8_of9' (hz z1 (by simp))
  obtain ⟨N2, rfl, h2⟩ := u8_of9' (hz z2 (by simp))
  obtain ⟨N3, rfl, h3⟩ := u8_of9' (hz z3 (by simp))
  obtain ⟨Nd, rfl, h4⟩ := u8_of9' hnd
  obtain ⟨A', c', rfl, g1, g2, g3⟩ := slk_rdv hu
  unfold maxLen at g2
  by_cases hp : 400 < ps.length
  · exact order9_far _ _ _ _ _ A' _ _ (by omega) (by omega) w
  · exact order9_near N0 N1 N2 N3 Nd _ _ A' ps h0 h1 h2 h3 h4 (by omega) (Lib.hid rfl) w (Lib.hid g3)
end Go.Proofs.Ytndpkonihcebeaa.Kod.Nine
