/- InboxDrains, walked. -/
import Derived.Test.YtndpkonihcebeaaDrnM
import Derived.Deep.DeepCutAuto
import Derived.Deep.QuietTactic
import Derived.BigQuiet
namespace Go.Proofs.Ytndpkonihcebeaa.Kod.Nine
open Go.RowKit Go.Proofs.Ytndpkonihcebeaa Go.Proofs.Ytndpkonihcebeaa.Cell Go.Proofs.Ytndpkonihcebeaa.Wd
set_option linter.unusedVariables false
set_option linter.unusedSimpArgs false

set_option maxRecDepth 100000 in
set_option maxHeartbeats 400000 in
theorem drains9_far (N0 N1 N2 N3 : Int) (A' : Option Addr) (n' c' : Nat) (hnb' : (n' : Int) ≤ 9223372036854775807) (h : (400 : Int) < (n' : Int)) (w : World) :
    Calls Try.prog 4 #[.agg #[.int .u8 N0, .int .u8 N1, .int .u8 N2, .int .u8 N3], .slice A' n' c'] w fun e w' => e = .returned (.bool true) ∧ Made w w' := by
  have HM : Hid (Made w (w.alloc (.cells #[.int .u8 N0, .int .u8 N1, .int .u8 N2, .int .u8 N3] 22))) := (Made.refl w).alloc (Nat.le_refl _) _
  go_enter Try.func4, Try.ntmps4
  go_wp2_with fail
  refine (speaks_c _).mono ?_
  rintro e w0 ⟨rfl, hm0⟩
  have HM0 := Lib.hid (Made.trans HM.out hm0)
  clear hm0
  go_wp2_with fail
  refine (speaks_c _).mono ?_
  rintro e w1 ⟨rfl, hm1⟩
  have HM1 := Lib.hid (Made.trans HM0.out hm1)
  clear hm1
  go_wp2_with fail
  go_ret
  exact ⟨rfl, HM1.out⟩
theorem mem_take_succ9 {l : List Int} {q : Nat} {n t : Int} (h : l[q]? = some n) : t ∈ l.take (q + 1) ↔ t ∈ l.take q ∨ n = t := by
  rw [List.take_add_one, h]
  simp [eq_comm]
set_option maxRecDepth 100000 in
set_option maxHeartbeats 4000000 in
theorem drains9_near (N0 N1 N2 N3 n' c' : Nat) (A' : Option Addr) (ps : List Int) (h0 : N0 < 256) (h1 : N1 < 256) (h2 : N2 < 256) (h3 : N3 < 256) (hn4' : n' ≤ 400) (hn' : Hid (n' = ps.length)) (w : World) (hp : Hid (RdV w w.heap.size A' (ps.map (.int .i64)))) :
    Calls Try.prog 4 #[.agg #[.int .u8 (N0 : Int), .int .u8 (N1 : Int), .int .u8 (N2 : Int), .int .u8 (N3 : Int)], .slice A' n' c'] w fun e w' => e = .returned (.bool true) ∧ Made w w' := by
  have hmf : ∀ (fn : Fn) (first cap : Array Value) (w : World), (Instr.makeFunc fn first cap).run Try.prog w = .ok (.func fn first cap) w := fun _ _ _ _ => rfl
  have HFR := fun w => Lib.hid (fresh_c 20 (by omega) w)
  have HE := Lib.hid elem_int9
  have HET := Lib.hid elem_task9
  have j400 : (n' : Int) ≤ 400 := by omega
  obtain ⟨wb, hwb⟩ : ∃ wb, wb = w.alloc (.cells #[.int .u8 (N0 : Int), .int .u8 (N1 : Int), .int .u8 (N2 : Int), .int .u8 (N3 : Int)] 22) := ⟨_, rfl⟩
  have HMB : Hid (Made w wb) := by show Made _ _; rw [hwb]; exact (Made.refl w).alloc (Nat.le_refl _) _
  have HC4 : Hid (wb.heap[w.heap.size]? = some (.cells #[.int .u8 (N0 : Int), .int .u8 (N1 : Int), .int .u8 (N2 : Int), .int .u8 (N3 : Int)] 22 (0, 0))) := by show _ = _; rw [hwb]; exact heap_alloc_new _ _
  have HWB := Lib.hid hwb
  clear hwb
  go_enter Try.func4, Try.ntmps4
  go_wp2_with fail
  rw [← HWB.out]
  refine (speaks_c _).mono ?_
  rintro e w0 ⟨rfl, hm0⟩
  have HM0 := Lib.hid hm0
  clear hm0
  go_wp2_with fail
  refine (HFR _).out.mono ?_
  rintro e w1 ⟨a, b, ba, bn, rfl, hA, l1, l2, l3, l4, n1, n2, n3, n4, hba, hbn, hm1⟩
  have hl0 := HM0.out.size
  obtain ⟨⟨s0, s1, s2, s3, s4, s5, s6⟩, HDR⟩ := Mid9d.start (B := wb.heap.size) (w0 := wb) hA (by omega) (by omega) n1 n2 n3 n4 hba hbn (Made.trans HM0.out hm1) (Made.trans HM0.out hm1).size [N0 % 6, N1 % 6, N2 % 6, N3 % 6]
  have HIX : Hid (∀ i : Nat, i < 4 → ∃ Ni : Nat, (#[Value.int .u8 (N0 : Int), .int .u8 (N1 : Int), .int .u8 (N2 : Int), .int .u8 (N3 : Int)] : Array Value)[i]? = some (.int .u8 (Ni : Int)) ∧ Ni < 256 ∧ (Ni : Int) % 6 = (([N0 % 6, N1 % 6, N2 % 6, N3 % 6].getD i 0 : Nat) : Int)) := fun i hi => four_idx h0 h1 h2 h3 hi
  have HM5 : Hid (∀ j : Nat, [N0 % 6, N1 % 6, N2 % 6, N3 % 6].getD j 0 ≤ 5) := four_le
  generalize [N0 % 6, N1 % 6, N2 % 6, N3 % 6] = ms at *
  unfold bxf at HDR s0 s1 s2 s3 s4 s5 s6
  clear hA l1 l2 l3 l4 n1 n2 n3 n4 hba hbn hm1 HFR HM0 hl0
  go_wp2_with fail
  refine HDR.out.mono ?_
  rintro e w2 ⟨v, rfl, hv, HNW⟩
  clear HDR s0 s1 s2 s3 s4 s5 s6
  go_wp2_with fail
  refine HNW.out.mono ?_
  rintro e w3 ⟨tb, rfl, HMID⟩
  clear HNW
  obtain ⟨hq1, hq2⟩ := HMID.out.le
  have hsb : w.heap.size < wb.heap.size := lt_of_at HC4.out
  have hrow4 := (hq2.block _ hsb).trans HC4.out
  have r0 := cell_of_row _ _ 0 _ _ _ hrow4
  have r1 := cell_of_row _ _ 1 _ _ _ hrow4
  have r2 := cell_of_row _ _ 2 _ _ _ hrow4
  have r3 := cell_of_row _ _ 3 _ _ _ hrow4
  simp only [List.getElem?_toArray, List.getElem?_cons_zero, List.getElem?_cons_succ] at r0 r1 r2 r3
  clear hrow4 hq2 hq1
  go_upto_region 11 with fail
  clear r0 r1 r2 r3
  generalize hR4 : (#[Value.int .u8 (N0 : Int), .int .u8 (N1 : Int), .int .u8 (N2 : Int), .int .u8 (N3 : Int)] : Array Value) = R4 at *
  clear hR4
  go_loopw [10, 43] (fun tv iv wr => ∃ (i : Nat) (At : Option Addr) (nt ct : Nat), tv = .slice At nt ct ∧ iv = .int .i64 (i : Int) ∧ i ≤ 4 ∧ Hid (nt = i + 1) ∧ Hid (Mid9d a b (w1.heap.size + 1) ba bn wb.heap.size w1.heap.size (w1.heap.size + 1 + 1) w3.heap.size ms i (.slice At nt ct) [] wb wr)) (fun _ iv _ => (4 - intOf iv).toNat)
  case atStart => exact ⟨0, _, _, _, rfl, rfl, by omega, Lib.hid rfl, HMID⟩
  case round =>
    clear HMID
    obtain ⟨i, At, nt, ct, rfl, rfl, hi, HNN, HMI⟩ := hrel
    by_cases hlt : i < 4
    · obtain ⟨Ni, hR, hNi, hmod⟩ := HIX.out i hlt
      have hidx : ∀ w : World, (Instr.index 22 (.agg R4) (.int .i64 (i : Int))).run Try.prog w = .ok (.int .u8 (Ni : Int)) w := fun w => run_index_agg (n := 4) (e := 5) Try.underlying22 Try.underlying5 rfl (by kernel_rfl) R4 .i64 i _ (by omega) (by omega) hR w
      have i0 : (0 : Int) ≤ (i : Int) := by omega
      have i1 : (i : Int) < 4 := by omega
      have m0 : (0 : Int) ≤ (Ni : Int) := by omega
      have m1 : (Ni : Int) < 256 := by omega
      obtain ⟨m, hm⟩ : ∃ m, m = ms.getD i 0 := ⟨_, rfl⟩
      have hm5 : m ≤ 5 := by rw [hm]; exact HM5.out i
      rw [← hm] at hmod
      have HMOD := Lib.hid hmod
      have HMM := Lib.hid hm
      clear hmod hR hNi hm
      go_wp2_with fail
      rw [HMOD.out]
      clear hidx m0 m1 HMOD
      obtain ⟨wo, rfl⟩ : ∃ wo : World, wo = wr := ⟨_, rfl⟩
      have m6 : (m : Int) < 6 := by omega
      go_loopw [13, 50] (fun v kv wz => ∃ (k : Nat) (A3 : Option Addr) (c3 : Nat), v = .slice A3 k c3 ∧ kv = .int .i64 (k : Int) ∧ k ≤ m ∧ Hid (Grw wo wz A3 c3 k (nums9 (5 * (i : Int)) k))) (fun _ kv _ => (m - intOf kv).toNat)
      case atStart => exact ⟨0, none, 0, rfl, rfl, by omega, Grw.start wo⟩
      case round =>
        obtain ⟨k, A3, c3, rfl, rfl, hk, HK⟩ := hrel
        by_cases hkm : k < m
        · have k1 : (k : Int) < (m : Int) := by omega
          have k2 : (k : Int) < 6 := by omega
          have k0 : (0 : Int) ≤ (k : Int) := by omega
          have hsz := HK.out.bel.size
          go_wp2_with (at_builtin; (refine wpList_app _ rfl (.tmp 53) (.tmp 58) 23 rfl wo.heap.size 3 (.int .i64 0) 8 HE.out (.slice A3 k c3) k ((nums9 (5 * (i : Int)) k).map (.int .i64)) (by simp [Act.eval, Act.put]) (World.ownsRow.alloc HK.out.row _) (some ⟨wr.heap.size, 0, none⟩) 1 1 [.int .i64 (5 * (i : Int) + (k : Int))] (by simp [Act.eval, Act.put]) (Reads.row (cs := #[.int .i64 (5 * (i : Int) + (k : Int))]) (heap_alloc_new wr _) rfl) (by simp [Value.oneCell']) (by unfold maxLen; omega) (by omega) (by simp only [World.size_alloc]; omega) ?_; intro A5 c5 w5 hown hgrow _; have HK5 := Lib.hid (HK.out.app hown hgrow); clear hown hgrow))
          go_roundw
          case rel => exact ⟨k + 1, A5, c5, rfl, by first | rfl | go_num | (congr 1; omega), by omega, by have h := HK5.out; rw [show nums9 (5 * (i : Int)) (k + 1) = nums9 (5 * (i : Int)) k ++ [5 * (i : Int) + (k : Int)] by rw [nums9_succ]]; exact h⟩
          case measure => simp [intOf]; omega
        · obtain rfl : m = k := by omega
          have HMV : Hid (nums9 (5 * (i : Int)) m = mine ms i) := by show _ = _; unfold mine; rw [← HMM.out]
          have hML : (mine ms i).length = m := by rw [← HMV.out, nums9_len]
          obtain ⟨HN, hc3, hc4⟩ := HMI.out.note HK.out
          rw [HMV.out] at HN
          obtain ⟨⟨s0, s1, s2, s3, s4, s5, s6⟩, HPU⟩ := Mid9d.puts hlt HM5.out HMM.out ⟨hc3, hc4⟩ HN
          unfold bxf at HPU
          clear HN HK hkm hk
          go_wp2_with fail
          refine HPU.out.mono ?_
          rintro e w6 ⟨v6, rfl, hv6, HNW⟩
          clear HPU s0 s1 s2 s3 s4 s5 s6
          go_wp2_with fail
          refine HNW.out.mono ?_
          rintro e w7 ⟨tb7, ts7, rfl, HOW7, hle7, HNX⟩
          clear HNW
          go_wp2_with (at_builtin; (refine wpList_app _ rfl (.tmp 61) (.tmp 67) 42 rfl wb.heap.size 37 (.pointer none) 8 HET.out (.slice At nt ct) (i + 1) ts7 (by simp [Act.eval, Act.put]) (World.ownsRow.alloc HOW7.out _) (some ⟨w7.heap.size, 0, none⟩) 1 1 [.pointer (some ⟨tb7, 0, none⟩)] (by simp [Act.eval, Act.put]) (Reads.row (cs := #[.pointer (some ⟨tb7, 0, none⟩)]) (heap_alloc_new w7 _) rfl) (by simp [Value.oneCell']) (by unfold maxLen; omega) (by omega) (by simp only [World.size_alloc]; omega) ?_; intro A8 c8 w8 hown hgrow hat; have HM8 := Lib.hid (HNX.out _ _ _ _ hown hgrow hat); clear hown hgrow hat))
          go_roundw
          case rel => exact ⟨i + 1, _, _, _, rfl, by go_num, by omega, Lib.hid rfl, HM8⟩
          case measure => simp [intOf]; omega
    · obtain rfl : i = 4 := by omega
      obtain ⟨rfl, HRN⟩ := Mid9d.go (A2 := A') (n2 := n') (c2 := c') HM5.out ps (by have := hn'.out; omega) HMI.out (fun i v hv => by
        obtain ⟨d, e1, e2, e3⟩ := hp.out.later HMB.out i v hv
        exact ⟨d, e1, Nat.lt_of_lt_of_le e2 HMB.out.size, e3⟩) hn'
      clear HMI HNN
      go_wp2_with fail
      refine HRN.out.mono ?_
      rintro e w5 ⟨⟨z, rfl⟩, tb5, hcD, HFN⟩
      clear HRN
      go_wp2_with fail
      refine HFN.out.mono ?_
      rintro e w6 ⟨rfl, ended, got, Ae, ce, Ag, cg, hcE, HRE, hcG, HRG, HIN, hel, hgl, HB6⟩
      unfold maxLen at hel
      obtain ⟨ne, hne⟩ : ∃ ne, ne = ended.length := ⟨_, rfl⟩
      obtain ⟨ng, hng⟩ : ∃ ng, ng = got.length := ⟨_, rfl⟩
      rw [← hne] at hcE HRE hel
      rw [← hng] at hcG HRG hgl
      have HNE := Lib.hid hne
      have HNG := Lib.hid hng
      have hne9 : (ne : Int) ≤ 9223372036854775807 := by omega
      have hng9 : (ng : Int) ≤ 20 := by omega
      have HF : Hid (Made w w6) := Made.trans HMB.out HB6.out
      clear HFN hcD hne hng hel hgl HB6
      go_wp2_with fail
      go_loop [78] (fun jv => ∃ (j : Nat), jv = .int .i64 (j : Int) ∧ j ≤ ne) (fun jv => (ne - intOf jv).toNat)
      case atStart => exact ⟨0, rfl, by omega⟩
      case round =>
        obtain ⟨j, rfl, hj⟩ := hrel
        by_cases hlt : j < ne
        · obtain ⟨t, ht⟩ : ∃ t, ended[j]? = some t := ⟨_, List.getElem?_eq_getElem (by have := HNE.out; omega)⟩
          obtain ⟨de, rfl, hct⟩ := HRE.out.2 j (.int .i64 t) (by rw [List.getElem?_map, ht]; rfl)
          have htg := HIN.out t (List.mem_of_getElem? ht)
          have HTG := Lib.hid htg
          have j0 : (0 : Int) ≤ (j : Int) := by omega
          have j1 : (j : Int) < (ne : Int) := by omega
          clear ht htg
          go_wp2_with fail
          go_loop [17, 87] (fun bv qv => ∃ (q : Nat), bv = .bool (decide (t ∈ got.take q)) ∧ qv = .int .i64 (q : Int) ∧ q ≤ ng) (fun _ qv => (ng - intOf qv).toNat)
          case atStart => exact ⟨0, by simp, rfl, by omega⟩
          case round =>
            obtain ⟨q, rfl, rfl, hq⟩ := hrel
            by_cases hqn : q < ng
            · obtain ⟨n, hn⟩ : ∃ n, got[q]? = some n := ⟨_, List.getElem?_eq_getElem (by have := HNG.out; omega)⟩
              obtain ⟨da, rfl, hca⟩ := HRG.out.2 q (.int .i64 n) (by rw [List.getElem?_map, hn]; rfl)
              have q0 : (0 : Int) ≤ (q : Int) := by omega
              have q1 : (q : Int) < (ng : Int) := by omega
              have hmt := mem_take_succ9 (t := t) hn
              by_cases hm : t ∈ got.take q
              · have hd : decide (t ∈ got.take q) = true := decide_eq_true hm
                have hd2 : Hid (decide (t ∈ got.take (q + 1)) = true) := decide_eq_true (hmt.2 (Or.inl hm))
                rw [hd]
                clear hmt hm hd hn
                go_wp2_with fail
                go_round
                case rel => exact ⟨q + 1, by rw [hd2.out], by go_num, by omega⟩
                case measure => simp [intOf]; omega
              · have hd : decide (t ∈ got.take q) = false := decide_eq_false hm
                by_cases hkt : n = t
                · have hd2 : Hid (decide (t ∈ got.take (q + 1)) = true) := decide_eq_true (hmt.2 (Or.inr hkt))
                  subst hkt
                  rw [hd]
                  clear hmt hm hd hn
                  go_wp2_with fail
                  go_round
                  case rel => exact ⟨q + 1, by rw [hd2.out], by go_num, by omega⟩
                  case measure => simp [intOf]; omega
                · have hd2 : Hid (decide (t ∈ got.take (q + 1)) = false) := decide_eq_false (fun e => (hmt.1 e).elim hm hkt)
                  have e1 : (n == t) = false := by simpa using hkt
                  rw [hd]
                  clear hmt hm hd hn
                  go_wp2_with fail
                  go_round
                  case rel => exact ⟨q + 1, by rw [hd2.out], by go_num, by omega⟩
                  case measure => simp [intOf]; omega
            · obtain rfl : q = ng := by omega
              have htk : got.take q = got := List.take_of_length_le (by have := HNG.out; omega)
              have hd : decide (t ∈ got.take q) = true := by rw [htk]; exact decide_eq_true HTG.out
              rw [hd]
              clear htk hd
              go_wp2_with fail
              go_round
              case rel => exact ⟨j + 1, by go_num, by omega⟩
              case measure => simp [intOf]; omega
        · obtain rfl : j = ne := by omega
          go_wp2_with fail
          go_ret
          exact ⟨rfl, HF.out⟩
theorem drains9w (zs : List Int) (u : Value) (ps : List Int) (w : World) (hl : zs.length = 4) (hz : ∀ z ∈ zs, (Lit.int .u8 z).wf = true) (hu : SlK .i64 w u ps) (_ : ∀ z ∈ ps, (Lit.int .i64 z).wf = true) :
    Calls Try.prog 4 #[.agg (zs.map (Value.int .u8)).toArray, u] w fun e w' => e = .returned (.bool true) ∧ Made w w' := by
  obtain ⟨z0, z1, z2, z3, rfl⟩ := four9 zs hl
  obtain ⟨N0, rfl, h0⟩ := u8_of9' (hz z0 (by simp))
  obtain ⟨N1, rfl, h1⟩ := u8_of9' (hz z1 (by simp))
  obtain ⟨N2, rfl, h2⟩ := u8_of9' (hz z2 (by simp))
  obtain ⟨N3, rfl, h3⟩ := u8_of9' (hz z3 (by simp))
  obtain ⟨A', c', rfl, g1, g2, g3⟩ := slk_rdv hu
  unfold maxLen at g2
  by_cases hp : 400 < ps.length
  · exact drains9_far _ _ _ _ A' _ _ (by omega) (by omega) w
  · exact drains9_near N0 N1 N2 N3 _ _ A' ps h0 h1 h2 h3 (by omega) (Lib.hid rfl) w (Lib.hid g3)
end Go.Proofs.Ytndpkonihcebeaa.Kod.Nine
