/- InboxMany, walked. -/
import Derived.Test.YtndpkonihcebeaaTask9
import Derived.Test.YtndpkonihcebeaaEach9
import Derived.Deep.DeepCutAuto
namespace Go.Proofs.Ytndpkonihcebeaa.Kod.Nine
open Go.RowKit Go.Proofs.Ytndpkonihcebeaa Go.Proofs.Ytndpkonihcebeaa.Cell Go.Proofs.Ytndpkonihcebeaa.Wd
set_option linter.unusedVariables false
set_option linter.unusedSimpArgs false

/-- What is there, and of the first tickets those that nobody was to lay. -/
def ths (zs all : List Int) (k : Nat) : List Int := zs ++ (nums k).filter fun t => !decide (t ∈ all)
theorem ths_succ (zs all : List Int) (k : Nat) : ths zs all (k + 1) = if (k : Int) ∈ all then ths zs all k else ths zs all k ++ [(k : Int)] := by
  unfold ths nums
  rw [List.range_succ, List.map_append, List.filter_append]
  by_cases h : (k : Int) ∈ all
  · simp [h]
  · simp [h]
theorem ths_perm {zs all : List Int} (hp : zs.Perm all) (h1 : all.Nodup) (h2 : ∀ i ∈ all, 0 ≤ i ∧ i < 20) : (ths zs all 20 ++ []).Perm (nums 20) := by
  rw [List.append_nil]
  unfold ths
  refine (hp.append_right _).trans ?_
  refine (List.perm_ext_iff_of_nodup ?_ (nums_once 20)).2 fun x => ?_
  · rw [List.nodup_append]
    refine ⟨h1, (nums_once 20).filter _, fun x hx y hy e => ?_⟩
    subst e
    have := (List.mem_filter.1 hy).2
    simp at this
    exact this hx
  · rw [List.mem_append, List.mem_filter]
    constructor
    · rintro (h | h)
      · have := h2 x h
        unfold nums
        exact List.mem_map.2 ⟨x.toNat, List.mem_range.2 (by omega), by omega⟩
      · exact h.1
    · intro h
      by_cases hx : x ∈ all
      · exact Or.inl hx
      · exact Or.inr ⟨h, by simpa using hx⟩
theorem ths_len {zs all : List Int} (k : Nat) : (ths zs all k).length ≤ zs.length + k := by
  unfold ths
  have := List.length_filter_le (fun t => !decide (t ∈ all)) (nums k)
  rw [nums_len] at this
  simp only [List.length_append]
  omega
theorem mem_take_succ {l : List Int} {q : Nat} {n t : Int} (h : l[q]? = some n) : t ∈ l.take (q + 1) ↔ t ∈ l.take q ∨ n = t := by
  rw [List.take_add_one, h]
  simp [eq_comm]
/-- What was handed in is too much. -/
inductive Far9 (n n' : Nat) : Prop
  | picks (h : (400 : Int) < (n' : Int)) : Far9 n n'
  | dying (h1 : (n' : Int) ≤ 400) (h : (400 : Int) < (n : Int)) : Far9 n n'
set_option maxRecDepth 100000 in
set_option maxHeartbeats 400000 in
theorem many9_far (N0 N1 N2 N3 Nd : Int) (A A' : Option Addr) (n c n' c' : Nat) (hnb : (n : Int) ≤ 9223372036854775807) (hnb' : (n' : Int) ≤ 9223372036854775807) (h : Far9 n n') (w : World) :
    Calls Try.prog 7 #[.agg #[.int .u8 N0, .int .u8 N1, .int .u8 N2, .int .u8 N3], .slice A n c, .int .u8 Nd, .slice A' n' c'] w fun e w' => e = .returned (.bool true) ∧ Made w w' := by
  have HM : Hid (Made w (w.alloc (.cells #[.int .u8 N0, .int .u8 N1, .int .u8 N2, .int .u8 N3] 22))) := (Made.refl w).alloc (Nat.le_refl _) _
  rcases h with h | ⟨h1, h⟩
  all_goals
    go_enter Try.func7, Try.ntmps7
    go_wp2_with fail
    refine (speaks_c _).mono ?_
    rintro e w0 ⟨rfl, hm0⟩
    have HM0 := Lib.hid (Made.trans HM.out hm0)
    clear hm0
    go_wp2_with fail
    refine (speaks_c _).mono ?_
    rintro e w1 ⟨rfl, hm1⟩
    have HM1 := Lib.hid (Made.trans HM0.out hm1)
    clear hm1
    go_wp2_with fail
    go_ret
    exact ⟨rfl, HM1.out⟩
set_option maxRecDepth 100000 in
set_option maxHeartbeats 4000000 in
theorem many9_near (N0 N1 N2 N3 Nd n n' c c' : Nat) (A A' : Option Addr) (ds ps : List Int) (h0 : N0 < 256) (h1 : N1 < 256) (h2 : N2 < 256) (h3 : N3 < 256) (h4 : Nd < 256) (hn4 : n ≤ 400) (hn4' : n' ≤ 400) (hn : Hid (n = ds.length)) (hn' : Hid (n' = ps.length)) (w : World) (hl : Hid (RdV w w.heap.size A (ds.map (.int .i64)))) (hp : Hid (RdV w w.heap.size A' (ps.map (.int .i64)))) (hdw : Hid (∀ z ∈ ds, -9223372036854775808 ≤ z ∧ z ≤ 9223372036854775807)) :
    Calls Try.prog 7 #[.agg #[.int .u8 (N0 : Int), .int .u8 (N1 : Int), .int .u8 (N2 : Int), .int .u8 (N3 : Int)], .slice A n c, .int .u8 (Nd : Int), .slice A' n' c'] w fun e w' => e = .returned (.bool true) ∧ Made w w' := by
  have HFR := fun w => Lib.hid (fresh_c 20 (by omega) w)
  have HE := Lib.hid elem_int9
  have HET := Lib.hid elem_task9
  have i400 : (n : Int) ≤ 400 := by omega
  have j400 : (n' : Int) ≤ 400 := by omega
  obtain ⟨wb, hwb⟩ : ∃ wb, wb = w.alloc (.cells #[.int .u8 (N0 : Int), .int .u8 (N1 : Int), .int .u8 (N2 : Int), .int .u8 (N3 : Int)] 22) := ⟨_, rfl⟩
  have HMB : Hid (Made w wb) := by show Made _ _; rw [hwb]; exact (Made.refl w).alloc (Nat.le_refl _) _
  have HC4 : Hid (wb.heap[w.heap.size]? = some (.cells #[.int .u8 (N0 : Int), .int .u8 (N1 : Int), .int .u8 (N2 : Int), .int .u8 (N3 : Int)] 22 (0, 0))) := by show _ = _; rw [hwb]; exact heap_alloc_new _ _
  have HWB := Lib.hid hwb
  clear hwb
  obtain ⟨nd, hnd, hnd9⟩ : ∃ k : Nat, (Nd : Int) % 9 = (k : Int) ∧ k ≤ 8 := ⟨Nd % 9, by omega, by omega⟩
  have HND := Lib.hid hnd
  clear hnd
  go_enter Try.func7, Try.ntmps7
  go_wp2_with fail
  rw [← HWB.out]
  refine (speaks_c _).mono ?_
  rintro e w0 ⟨rfl, hm0⟩
  have HM0 := Lib.hid hm0
  clear hm0
  go_wp2_with fail
  refine (HFR _).out.mono ?_
  rintro e w1 ⟨a, b, ba, bn, rfl, hA, l1, l2, l3, l4, n1, n2, n3, n4, hba, hbn, hm1⟩
  have hl0 := HM0.out.size
  obtain ⟨⟨s0, s1, s2, s3, s4, s5, s6⟩, HDR⟩ := Mid9.start (B := wb.heap.size) (w0 := wb) hA (by omega) (by omega) n1 n2 n3 n4 hba hbn (Made.trans HM0.out hm1) (Made.trans HM0.out hm1).size (nd := nd) (by omega) [N0 % 6, N1 % 6, N2 % 6, N3 % 6]
  have HIX : Hid (∀ i : Nat, i < 4 → ∃ Ni : Nat, (#[Value.int .u8 (N0 : Int), .int .u8 (N1 : Int), .int .u8 (N2 : Int), .int .u8 (N3 : Int)] : Array Value)[i]? = some (.int .u8 (Ni : Int)) ∧ Ni < 256 ∧ (Ni : Int) % 6 = (([N0 % 6, N1 % 6, N2 % 6, N3 % 6].getD i 0 : Nat) : Int)) := fun i hi => four_idx h0 h1 h2 h3 hi
  have HM5 : Hid (∀ j : Nat, [N0 % 6, N1 % 6, N2 % 6, N3 % 6].getD j 0 ≤ 5) := four_le
  generalize [N0 % 6, N1 % 6, N2 % 6, N3 % 6] = ms at *
  unfold bxf at HDR s0 s1 s2 s3 s4 s5 s6
  clear hA l1 l2 l3 l4 n1 n2 n3 n4 hba hbn hm1 HFR HM0 hl0
  go_wp2_with fail
  rw [HND.out]
  refine HDR.out.mono ?_
  rintro e w2 ⟨v, rfl, hv, HNW⟩
  clear HDR s0 s1 s2 s3 s4 s5 s6
  go_wp2_with fail
  refine HNW.out.mono ?_
  rintro e w3 ⟨tb, rfl, HMID⟩
  clear HNW
  obtain ⟨hq1, hq2⟩ := HMID.out.le
  have hsb : w.heap.size < wb.heap.size := lt_of_at HC4.out
  have hrow4 := (hq2.block _ hsb).trans HC4.out
  have r0 := cell_of_row _ _ 0 _ _ _ hrow4
  have r1 := cell_of_row _ _ 1 _ _ _ hrow4
  have r2 := cell_of_row _ _ 2 _ _ _ hrow4
  have r3 := cell_of_row _ _ 3 _ _ _ hrow4
  simp only [List.getElem?_toArray, List.getElem?_cons_zero, List.getElem?_cons_succ] at r0 r1 r2 r3
  clear hrow4 hq2 hq1
  go_upto_region 10 with fail
  clear r0 r1 r2 r3
  generalize hR4 : (#[Value.int .u8 (N0 : Int), .int .u8 (N1 : Int), .int .u8 (N2 : Int), .int .u8 (N3 : Int)] : Array Value) = R4 at *
  clear hR4
  go_loopw [12, 13, 61] (fun tv av iv wr => ∃ (i : Nat) (At : Option Addr) (nt ct : Nat) (Aa : Option Addr) (na ca : Nat), tv = .slice At nt ct ∧ av = .slice Aa na ca ∧ iv = .int .i64 (i : Int) ∧ i ≤ 4 ∧ Hid (nt = i + 1 ∧ na = (allm ms i).length) ∧ Hid (Mid9 a b ba bn wb.heap.size w1.heap.size (w1.heap.size + 1) (kdr 0 nd) ms i (.slice At nt ct) (.slice Aa na ca) (allm ms i) [] wb wr)) (fun _ _ iv _ => (4 - intOf iv).toNat)
  case atStart => exact ⟨0, _, _, _, _, _, _, rfl, rfl, rfl, by omega, ⟨rfl, rfl⟩, HMID⟩
  case round =>
    clear HMID
    obtain ⟨i, At, nt, ct, Aa, na, ca, rfl, rfl, rfl, hi, HNN, HMI⟩ := hrel
    by_cases hlt : i < 4
    · obtain ⟨Ni, hR, hNi, hmod⟩ := HIX.out i hlt
      have hidx : ∀ w : World, (Instr.index 22 (.agg R4) (.int .i64 (i : Int))).run Try.prog w = .ok (.int .u8 (Ni : Int)) w := fun w => run_index_agg (n := 4) (e := 5) Try.underlying22 Try.underlying5 rfl (by kernel_rfl) R4 .i64 i _ (by omega) (by omega) hR w
      have i0 : (0 : Int) ≤ (i : Int) := by omega
      have i1 : (i : Int) < 4 := by omega
      have m0 : (0 : Int) ≤ (Ni : Int) := by omega
      have m1 : (Ni : Int) < 256 := by omega
      obtain ⟨m, hm⟩ : ∃ m, m = ms.getD i 0 := ⟨_, rfl⟩
      have hm5 : m ≤ 5 := by rw [hm]; exact HM5.out i
      rw [← hm] at hmod
      have HMOD := Lib.hid hmod
      have HMM := Lib.hid hm
      clear hmod hR hNi hm
      go_wp2_with fail
      rw [HMOD.out]
      clear hidx m0 m1 HMOD
      obtain ⟨wo, rfl⟩ : ∃ wo : World, wo = wr := ⟨_, rfl⟩
      have m6 : (m : Int) < 6 := by omega
      go_loopw [16, 68] (fun v kv wz => ∃ (k : Nat) (A3 : Option Addr) (c3 : Nat), v = .slice A3 k c3 ∧ kv = .int .i64 (k : Int) ∧ k ≤ m ∧ Hid (Grw wo wz A3 c3 k (nums9 (5 * (i : Int)) k))) (fun _ kv _ => (m - intOf kv).toNat)
      case atStart => exact ⟨0, none, 0, rfl, rfl, by omega, Grw.start wo⟩
      case round =>
        obtain ⟨k, A3, c3, rfl, rfl, hk, HK⟩ := hrel
        by_cases hkm : k < m
        · have k1 : (k : Int) < (m : Int) := by omega
          have k2 : (k : Int) < 6 := by omega
          have k0 : (0 : Int) ≤ (k : Int) := by omega
          have hsz := HK.out.bel.size
          go_wp2_with (at_builtin; (refine wpList_app _ rfl (.tmp 71) (.tmp 76) 23 rfl wo.heap.size 3 (.int .i64 0) 8 HE.out (.slice A3 k c3) k ((nums9 (5 * (i : Int)) k).map (.int .i64)) (by simp [Act.eval, Act.put]) (World.ownsRow.alloc HK.out.row _) (some ⟨wr.heap.size, 0, none⟩) 1 1 [.int .i64 (5 * (i : Int) + (k : Int))] (by simp [Act.eval, Act.put]) (Reads.row (cs := #[.int .i64 (5 * (i : Int) + (k : Int))]) (heap_alloc_new wr _) rfl) (by simp [Value.oneCell']) (by unfold maxLen; omega) (by omega) (by simp only [World.size_alloc]; omega) ?_; intro A5 c5 w5 hown hgrow _; have HK5 := Lib.hid (HK.out.app hown hgrow); clear hown hgrow))
          go_roundw
          case rel => exact ⟨k + 1, A5, c5, rfl, by first | rfl | go_num | (congr 1; omega), by omega, by have h := HK5.out; rw [show nums9 (5 * (i : Int)) (k + 1) = nums9 (5 * (i : Int)) k ++ [5 * (i : Int) + (k : Int)] by rw [nums9_succ]]; exact h⟩
          case measure => simp [intOf]; omega
        · obtain rfl : m = k := by omega
          have HMV : Hid (nums9 (5 * (i : Int)) m = mine ms i) := by show _ = _; unfold mine; rw [← HMM.out]
          have hML : (mine ms i).length = m := by rw [← HMV.out, nums9_len]
          obtain ⟨HN, hc3, hc4, hrd⟩ := HMI.out.note HK.out
          rw [HMV.out] at HN hrd
          have HN1 := Lib.hid HN
          have HRD := Lib.hid hrd
          have har := HN.arow
          rw [← HNN.out.2] at har
          have HAR := Lib.hid har
          clear har
          have hle := HN.le.1
          have HNA := Lib.hid HNN.out.2
          have hna20 : na ≤ 20 := by
            have h1 := HNN.out.2
            have h2 := few_of 20 (allm ms i) (allm_once HM5.out i) (fun x hx => by have := allm_rng HM5.out hx; omega)
            omega
          have HGP := Lib.hid (fun (A5 : Option Addr) (c5 : Nat) (w5 : World) (g1 : w5.ownsRow wb.heap.size 3 1 (.slice A5 (na + m) c5) (na + m) ((allm ms i).map (.int .i64) ++ (mine ms i).map (.int .i64))) (g2 : wr.grownBy w5 (Value.slice Aa na ca).ownBlock) (g3 : (Value.slice A5 (na + m) c5).ownBlock = (Value.slice Aa na ca).ownBlock ∨ (Value.slice A5 (na + m) c5).ownBlock = some wr.heap.size) => And.intro (HN1.out.grow g1 g2 g3).2 (Mid9.puts hlt HM5.out HMM.out ⟨hc3, hc4⟩ (HN1.out.grow g1 g2 g3).1))
          unfold bxf at HGP
          clear HN hrd HK hkm hk HNA
          go_wp2_with (at_builtin; go_loud (refine wpList_app _ rfl (.tmp 79) (.tmp 80) 23 rfl wb.heap.size 3 (.int .i64 0) 8 HE.out (.slice Aa na ca) na ((allm ms i).map (.int .i64)) (by simp [Act.eval, Act.put]) HAR.out A3 m c3 ((mine ms i).map (.int .i64)) (by simp [Act.eval, Act.put]) HRD.out (ints_one9 _) (by unfold maxLen; omega) (by omega) hle ?_; intro A5 c5 w5 hown hgrow hat; obtain ⟨hnl, ⟨s0, s1, s2, s3, s4, s5, s6⟩, HPU⟩ := HGP.out A5 c5 w5 hown hgrow hat; have HNL := Lib.hid hnl; clear hown hgrow hat hnl))
          refine HPU.out.mono ?_
          rintro e w6 ⟨v6, rfl, hv6, HNW⟩
          clear HPU s0 s1 s2 s3 s4 s5 s6 HN1 HRD HAR HGP
          go_wp2_with fail
          refine HNW.out.mono ?_
          rintro e w7 ⟨tb7, ts7, rfl, HOW7, hle7, HNX⟩
          have HNT := Lib.hid HNN.out.1
          clear HNW
          go_wp2_with (at_builtin; (refine wpList_app _ rfl (.tmp 82) (.tmp 87) 42 rfl wb.heap.size 37 (.pointer none) 8 HET.out (.slice At nt ct) (i + 1) ts7 (by simp [Act.eval, Act.put]) (World.ownsRow.alloc HOW7.out _) (some ⟨w7.heap.size, 0, none⟩) 1 1 [.pointer (some ⟨tb7, 0, none⟩)] (by simp [Act.eval, Act.put]) (Reads.row (cs := #[.pointer (some ⟨tb7, 0, none⟩)]) (heap_alloc_new w7 _) rfl) (by simp [Value.oneCell']) (by unfold maxLen; omega) (by omega) (by simp only [World.size_alloc]; omega) ?_; intro A8 c8 w8 hown hgrow hat; have HM8 := Lib.hid (HNX.out _ _ _ _ hown hgrow hat); clear hown hgrow hat))
          go_roundw
          case rel => exact ⟨i + 1, _, _, _, _, _, _, rfl, rfl, by go_num, by omega, ⟨rfl, HNL.out⟩, HM8⟩
          case measure => simp [intOf]; omega
    · obtain rfl : i = 4 := by omega
      obtain ⟨rfl, hna, q1, q2, q3, q4, HPK⟩ := Mid9.seal (I := I8) HM5.out (i8_start (by omega)) HMI.out
      have HNA := Lib.hid hna
      have HP0 := Lib.hid HPK
      clear HPK HMI HNN hna
      go_wp2_with fail
      go_loopw [92] (fun rv wr => ∃ (r : Nat), rv = .int .i64 (r : Int) ∧ r ≤ n' ∧ Hid (Pk9 a b ba bn wb.heap.size w1.heap.size (w1.heap.size + 1) (4000 - r) (12000 - 3 * r) (allm ms 4) I8 (fun _ => False) At [(Aa, (allm ms 4).map (.int .i64))] wb wr)) (fun rv _ => (n' - intOf rv).toNat)
      case atStart => exact ⟨0, rfl, by omega, HP0⟩
      case round =>
        clear HP0
        obtain ⟨r, rfl, hr, HPR⟩ := hrel
        by_cases hlt : r < n'
        · have HBW : Hid (Below w.heap.size w wr) := Made.trans HMB.out HPR.out.bel
          obtain ⟨pv, hpv⟩ : ∃ pv, ps[r]? = some pv := ⟨_, List.getElem?_eq_getElem (by have := hn'.out; omega)⟩
          obtain ⟨dp, rfl, hpb, hdp⟩ := hp.out.later HBW.out r (.int .i64 pv) (by rw [List.getElem?_map, hpv]; rfl)
          have r0 : (0 : Int) ≤ (r : Int) := by omega
          have r1 : (r : Int) < (n' : Int) := by omega
          clear hpv hpb
          by_cases hrn : r < n
          · obtain ⟨dv, hdv⟩ : ∃ dv, ds[r]? = some dv := ⟨_, List.getElem?_eq_getElem (by have := hn.out; omega)⟩
            obtain ⟨dd, rfl, hdb, hdd⟩ := hl.out.later HBW.out r (.int .i64 dv) (by rw [List.getElem?_map, hdv]; rfl)
            obtain ⟨b0, b1⟩ := hdw.out dv (List.mem_of_getElem? hdv)
            have r2 : (r : Int) < (n : Int) := by omega
            clear hdv hdb HBW
            by_cases hd0 : 0 ≤ dv
            · by_cases hd1 : dv < 20
              · have HPD := Lib.hid (HPR.out.later (Made.drewN wr 1))
                have HKL := Lib.hid (Pk9.kill (n := 12000 - 3 * r - 1) (HPD.out.lower (Nat.le_refl _) (by omega)) hd0 hd1)
                obtain ⟨s0, s1, s2, s3, s4, s5, s6⟩ := HPR.out.seven
                clear HPR
                go_upto_region 25 with fail
                go_still_tail 7, (by kernel_rfl)
                change wpList _ _ _ _ _ wr.drew
                have s0' : wr.drew.cell? ⟨w1.heap.size, 0, none⟩ = some (.pointer (some ⟨a, 0, none⟩)) := s0
                have hdd' : wr.drew.cell? (dd.add r) = some (.int .i64 dv) := hdd
                have HKL2 : Hid (Calls Try.prog 23 #[.pointer (some ⟨a, 0, none⟩), .int .i64 (22 + dv), .int .u64 1] wr.drew fun e w2 => (∃ b, e = .returned (.bool b)) ∧ Hid (Pk9 a b ba bn wb.heap.size w1.heap.size (w1.heap.size + 1) (4000 - r) (12000 - 3 * r - 1) (allm ms 4) I8 (fun _ => False) At [(Aa, (allm ms 4).map (.int .i64))] wb w2) ∧ Seven a ba bn w1.heap.size w2) := HKL.out
                clear HKL HPD s0 s1 s2 s3 s4 s5 s6 hdd hdp
                generalize wr.drew = wd at *
                go_wp2_with fail
                refine HKL2.out.mono ?_
                rintro e w6 ⟨⟨bb, rfl⟩, HPX, _⟩
                clear HKL2 s0' hdd'
                have hpk := HPX.out.lower (N' := (4000 - (r + 1)) + 1) (n' := (12000 - 3 * (r + 1)) + 2) (by omega) (by omega)
                obtain ⟨q, q0, q1, HCT, HRUN⟩ := Pk9.pick keep8 pv ct hpk
                obtain ⟨s0, s1, s2, s3, s4, s5, s6⟩ := hpk.seven
                clear hpk HPX
                go_wp2_with fail
                refine HCT.out.mono ?_
                rintro e wx ⟨rfl, rfl⟩
                clear HCT
                go_wp2_with fail
                refine (HRUN.out _).mono ?_
                rintro e w9 ⟨⟨z, rfl⟩, ⟨t0, t1, t2, t3, t4, t5, t6⟩, q2, p0, p1, HCT2, HP9⟩
                have hgt : decide (q + 1 < q2) = false := by simp; omega
                clear HRUN s0 s1 s2 s3 s4 s5 s6
                go_wp2_with fail
                refine HCT2.out.mono ?_
                rintro e w9' ⟨rfl, rfl⟩
                clear HCT2
                go_wp2_with fail
                refine ⟨?_, ?measure⟩
                repeat apply Exists.intro
                refine ⟨?rel, rfl⟩
                case rel => exact ⟨r + 1, by go_num, by omega, HP9⟩
                case measure => simp [intOf]; omega
              · have HPX : Hid (Pk9 a b ba bn wb.heap.size w1.heap.size (w1.heap.size + 1) (4000 - r) (12000 - 3 * r - 1) (allm ms 4) I8 (fun _ => False) At [(Aa, (allm ms 4).map (.int .i64))] wb wr) := HPR.out.lower (Nat.le_refl _) (by omega)
                clear HPR
                have hpk := HPX.out.lower (N' := (4000 - (r + 1)) + 1) (n' := (12000 - 3 * (r + 1)) + 2) (by omega) (by omega)
                obtain ⟨q, q0, q1, HCT, HRUN⟩ := Pk9.pick keep8 pv ct hpk
                obtain ⟨s0, s1, s2, s3, s4, s5, s6⟩ := hpk.seven
                clear hpk HPX
                go_wp2_with fail
                refine HCT.out.mono ?_
                rintro e wx ⟨rfl, rfl⟩
                clear HCT
                go_wp2_with fail
                refine (HRUN.out _).mono ?_
                rintro e w9 ⟨⟨z, rfl⟩, ⟨t0, t1, t2, t3, t4, t5, t6⟩, q2, p0, p1, HCT2, HP9⟩
                have hgt : decide (q + 1 < q2) = false := by simp; omega
                clear HRUN s0 s1 s2 s3 s4 s5 s6
                go_wp2_with fail
                refine HCT2.out.mono ?_
                rintro e w9' ⟨rfl, rfl⟩
                clear HCT2
                go_wp2_with fail
                refine ⟨?_, ?measure⟩
                repeat apply Exists.intro
                refine ⟨?rel, rfl⟩
                case rel => exact ⟨r + 1, by go_num, by omega, HP9⟩
                case measure => simp [intOf]; omega
            · have HPX : Hid (Pk9 a b ba bn wb.heap.size w1.heap.size (w1.heap.size + 1) (4000 - r) (12000 - 3 * r - 1) (allm ms 4) I8 (fun _ => False) At [(Aa, (allm ms 4).map (.int .i64))] wb wr) := HPR.out.lower (Nat.le_refl _) (by omega)
              clear HPR
              have hpk := HPX.out.lower (N' := (4000 - (r + 1)) + 1) (n' := (12000 - 3 * (r + 1)) + 2) (by omega) (by omega)
              obtain ⟨q, q0, q1, HCT, HRUN⟩ := Pk9.pick keep8 pv ct hpk
              obtain ⟨s0, s1, s2, s3, s4, s5, s6⟩ := hpk.seven
              clear hpk HPX
              go_wp2_with fail
              refine HCT.out.mono ?_
              rintro e wx ⟨rfl, rfl⟩
              clear HCT
              go_wp2_with fail
              refine (HRUN.out _).mono ?_
              rintro e w9 ⟨⟨z, rfl⟩, ⟨t0, t1, t2, t3, t4, t5, t6⟩, q2, p0, p1, HCT2, HP9⟩
              have hgt : decide (q + 1 < q2) = false := by simp; omega
              clear HRUN s0 s1 s2 s3 s4 s5 s6
              go_wp2_with fail
              refine HCT2.out.mono ?_
              rintro e w9' ⟨rfl, rfl⟩
              clear HCT2
              go_wp2_with fail
              refine ⟨?_, ?measure⟩
              repeat apply Exists.intro
              refine ⟨?rel, rfl⟩
              case rel => exact ⟨r + 1, by go_num, by omega, HP9⟩
              case measure => simp [intOf]; omega
          · have r2 : ¬ (r : Int) < (n : Int) := by omega
            have HPX : Hid (Pk9 a b ba bn wb.heap.size w1.heap.size (w1.heap.size + 1) (4000 - r) (12000 - 3 * r - 1) (allm ms 4) I8 (fun _ => False) At [(Aa, (allm ms 4).map (.int .i64))] wb wr) := HPR.out.lower (Nat.le_refl _) (by omega)
            clear HPR HBW
            have hpk := HPX.out.lower (N' := (4000 - (r + 1)) + 1) (n' := (12000 - 3 * (r + 1)) + 2) (by omega) (by omega)
            obtain ⟨q, q0, q1, HCT, HRUN⟩ := Pk9.pick keep8 pv ct hpk
            obtain ⟨s0, s1, s2, s3, s4, s5, s6⟩ := hpk.seven
            clear hpk HPX
            go_wp2_with fail
            refine HCT.out.mono ?_
            rintro e wx ⟨rfl, rfl⟩
            clear HCT
            go_wp2_with fail
            refine (HRUN.out _).mono ?_
            rintro e w9 ⟨⟨z, rfl⟩, ⟨t0, t1, t2, t3, t4, t5, t6⟩, q2, p0, p1, HCT2, HP9⟩
            have hgt : decide (q + 1 < q2) = false := by simp; omega
            clear HRUN s0 s1 s2 s3 s4 s5 s6
            go_wp2_with fail
            refine HCT2.out.mono ?_
            rintro e w9' ⟨rfl, rfl⟩
            clear HCT2
            go_wp2_with fail
            refine ⟨?_, ?measure⟩
            repeat apply Exists.intro
            refine ⟨?rel, rfl⟩
            case rel => exact ⟨r + 1, by go_num, by omega, HP9⟩
            case measure => simp [intOf]; omega
        · obtain rfl : r = n' := by omega
          have HP1 : Hid (Pk9 a b ba bn wb.heap.size w1.heap.size (w1.heap.size + 1) (1250 - 250 * 0) (2500 - 500 * 0) (allm ms 4) I8 (fun j => j < 0) At [(Aa, (allm ms 4).map (.int .i64))] wb wr) := (HPR.out.lower (by omega) (by omega)).dns (fun j hj => by omega)
          clear HPR
          go_wp2_with fail
          go_loopw [139] (fun iv wr => ∃ (i : Nat), iv = .int .i64 (i : Int) ∧ i ≤ 5 ∧ Hid (Pk9 a b ba bn wb.heap.size w1.heap.size (w1.heap.size + 1) (1250 - 250 * i) (2500 - 500 * i) (allm ms 4) I8 (fun j => j < i) At [(Aa, (allm ms 4).map (.int .i64))] wb wr)) (fun iv _ => (5 - intOf iv).toNat)
          case atStart => exact ⟨0, rfl, by omega, HP1⟩
          case round =>
            clear HP1
            obtain ⟨i, rfl, hi, HPI⟩ := hrel
            by_cases hlt : i < 5
            · obtain ⟨d, tb5, rfl, hc5, HF⟩ := Pk9.fin (N := 1250 - 250 * (i + 1)) (n := 2500 - 500 * (i + 1)) (most := 3000) keep8 (fun _ _ _ h => h) hlt (by omega) (HPI.out.lower (by omega) (by omega))
              have i0 : (0 : Int) ≤ (i : Int) := by omega
              have i1 : (i : Int) < 5 := by omega
              clear HPI
              go_wp2_with fail
              refine HF.out.mono ?_
              rintro e w5 ⟨rfl, HP5⟩
              have HP6 := Lib.hid (HP5.out.dns (dn' := fun j => j < i + 1) (fun j hj => by omega))
              clear HF HP5 hc5
              go_wp2_with fail
              refine ⟨?_, ?measure⟩
              repeat apply Exists.intro
              refine ⟨?rel, rfl⟩
              case rel => exact ⟨i + 1, by go_num, by omega, HP6⟩
              case measure => simp [intOf]; omega
            · obtain rfl : i = 5 := by omega
              obtain ⟨bl, fl, got, ends, hnd⟩ := Pk9.ends (J := fun _ => True) (fun _ _ _ _ => trivial) HPI.out (fun j hj => hj)
              have HND := Lib.hid hnd
              obtain ⟨s0, s1, s2, s3, s4, s5, s6⟩ := hnd.seven
              clear HPI hnd
              go_wp2_with fail
              refine HND.out.free_c.mono ?_
              rintro e w5 ⟨Af, cf, rfl, hrf, hm5⟩
              have HN5 := Lib.hid (HND.out.later hm5)
              have HRF := Lib.hid hrf
              clear HND hm5 hrf s0 s1 s2 s3 s4 s5 s6
              have hfl := HN5.out.few
              obtain ⟨nf, hnf⟩ : ∃ nf, nf = fl.length := ⟨_, rfl⟩
              rw [← hnf] at HRF
              rw [← hnf]
              have nf20 : (nf : Int) ≤ 20 := by omega
              have HNF := Lib.hid hnf
              clear hfl hnf
              go_wp2_with fail
              go_loopw [152] (fun iv wr => ∃ (j : Nat), iv = .int .i64 (j : Int) ∧ j ≤ nf ∧ Hid (Made w5 wr)) (fun iv _ => (nf - intOf iv).toNat)
              case atStart => exact ⟨0, rfl, by omega, Made.refl w5⟩
              case round =>
                obtain ⟨j, rfl, hj, HMJ⟩ := hrel
                by_cases hlt : j < nf
                · obtain ⟨t, ht⟩ : ∃ t, fl[j]? = some t := ⟨_, List.getElem?_eq_getElem (by have := HNF.out; omega)⟩
                  obtain ⟨df, rfl, hcf⟩ := (reads_made HRF.out HMJ.out).2 j (.int .i64 t) (by rw [List.getElem?_map, ht]; rfl)
                  obtain ⟨ht0, ht1, HAL⟩ := (HN5.out.later HMJ.out).all_c (List.mem_of_getElem? ht)
                  obtain ⟨tn, rfl⟩ : ∃ tn : Nat, t = (tn : Int) := ⟨t.toNat, by omega⟩
                  obtain ⟨s0, s1, s2, s3, s4, s5, s6⟩ := (HN5.out.later HMJ.out).seven
                  have i0 : (0 : Int) ≤ (j : Int) := by omega
                  have i1 : (j : Int) < (nf : Int) := by omega
                  have f0 : decide ((tn : Int) < 0) = false := by simp
                  have f1 : decide (20 ≤ (tn : Int)) = false := by simp; omega
                  clear ht
                  go_wp2_with fail
                  refine HAL.out.mono ?_
                  rintro e w6 ⟨rfl, hc6, hm6⟩
                  have hc7 : w6.cell? ⟨wr.heap.size, 22 + tn, none⟩ = some (.int .u64 1) := hc6
                  have HM6 := Lib.hid (Made.trans HMJ.out hm6)
                  clear HAL hm6 hc6 hcf s0 s1 s2 s3 s4 s5 s6
                  go_wp2_with fail
                  go_roundw
                  case rel => exact ⟨j + 1, by go_num, by omega, HM6⟩
                  case measure => simp [intOf]; omega
                · obtain rfl : j = nf := by omega
                  have HN6 := Lib.hid (HN5.out.later HMJ.out)
                  have HRF6 := Lib.hid (reads_made HRF.out HMJ.out)
                  clear HN5 HRF HMJ
                  obtain ⟨Ag, cg, A4, c4, hg0, hg1, hrg, hre⟩ := HN6.out.tk
                  have hfw := HN6.out.few
                  obtain ⟨ng, hng⟩ : ∃ ng, ng = got.length := ⟨_, rfl⟩
                  obtain ⟨nb, hnb⟩ : ∃ nb, nb = bl.length := ⟨_, rfl⟩
                  rw [← hng] at hg0 hrg hfw
                  rw [← hnb] at hfw
                  have hn20 : ng ≤ 20 ∧ nb ≤ 20 ∧ j ≤ 20 := by omega
                  have HRG := Lib.hid hrg
                  have HKEEP : Hid (∀ w1' : World, Made wr w1' → Hid (Made wr w1') ∧ w1'.cell? ⟨w1.heap.size + 1, 0, none⟩ = some (.slice Ag ng cg) ∧ w1'.cell? ⟨w1.heap.size, 0, none⟩ = some (.pointer (some ⟨a, 0, none⟩)) ∧ w1'.cell? ⟨w1.heap.size, 1, none⟩ = some (.int .i64 0) ∧ w1'.cell? ⟨w1.heap.size, 2, none⟩ = some (.func (.func 40) #[] #[]) ∧ w1'.cell? ⟨w1.heap.size, 3, none⟩ = some (.func (.func 41) #[] #[.pointer (some ⟨ba, 0, none⟩), .pointer (some ⟨bn, 0, none⟩)]) ∧ w1'.cell? ⟨w1.heap.size, 4, none⟩ = some (.pointer (some ⟨a, 0, none⟩)) ∧ w1'.cell? ⟨w1.heap.size, 5, none⟩ = some (.int .i64 1) ∧ w1'.cell? ⟨w1.heap.size, 6, none⟩ = some (.func (.func 40) #[] #[])) := fun w1' hm => ⟨hm, (hm.cell (Go.block_lt_of_cell hg0)).trans hg0, (HN6.out.later hm).seven⟩
                  have HBX : Hid (∀ w1' : World, Made wr w1' → Calls Try.prog 24 #[.agg (bxf a ba bn)] w1' fun e w2 => ∃ A c, e = .returned (.slice A nb c) ∧ Hid (w2.ownsRow w1'.heap.size 3 1 (.slice A nb c) nb (bl.map (.int .i64))) ∧ Hid (Made w1' w2)) := fun w1' hm => by
                    have := (HN6.out.later hm).box_c
                    rw [← hnb] at this
                    exact this
                  unfold bxf at HBX
                  have HNG := Lib.hid hng
                  have HNB := Lib.hid hnb
                  clear hg0 hg1 hrg hre hfw hng hnb
                  go_upto_region 44 with fail
                  go_cut [26] from 173 to 183 (fun s26 wx => ∃ (A9 : Option Addr) (c9 : Nat), s26 = .slice A9 (ng + nb + j) c9 ∧ Hid (wx.ownsRow wr.heap.size 3 1 (.slice A9 (ng + nb + j) c9) (ng + nb + j) ((got ++ bl ++ fl).map (.int .i64))) ∧ Hid (Made wr wx))
                  case first =>
                    go_region_held3 (fun w1' => Hid (Made wr w1') ∧ w1'.cell? ⟨w1.heap.size + 1, 0, none⟩ = some (.slice Ag ng cg) ∧ w1'.cell? ⟨w1.heap.size, 0, none⟩ = some (.pointer (some ⟨a, 0, none⟩)) ∧ w1'.cell? ⟨w1.heap.size, 1, none⟩ = some (.int .i64 0) ∧ w1'.cell? ⟨w1.heap.size, 2, none⟩ = some (.func (.func 40) #[] #[]) ∧ w1'.cell? ⟨w1.heap.size, 3, none⟩ = some (.func (.func 41) #[] #[.pointer (some ⟨ba, 0, none⟩), .pointer (some ⟨bn, 0, none⟩)]) ∧ w1'.cell? ⟨w1.heap.size, 4, none⟩ = some (.pointer (some ⟨a, 0, none⟩)) ∧ w1'.cell? ⟨w1.heap.size, 5, none⟩ = some (.int .i64 1) ∧ w1'.cell? ⟨w1.heap.size, 6, none⟩ = some (.func (.func 40) #[] #[])) (first | exact HKEEP.out _ (Made.drewN wr 1) | exact HKEEP.out _ (made_al (by assumption)) | exact HKEEP.out _ (Hid.out (by assumption))) (first | (refine step_app rfl (.tmp 181) (.tmp 182) 23 rfl wr.heap.size 3 (.int .i64 0) 8 HE.out (.slice A7 (ng + nb) c7) (ng + nb) (got.map (Value.int .i64) ++ bl.map (Value.int .i64)) (by simp [Act.eval, Act.put]) (HO3.out) Af j cf (fl.map (Value.int .i64)) (by simp [Act.eval, Act.put]) (reads_made HRF6.out (made_of (by assumption))) (ints_one9 _) (by unfold maxLen; omega) (by omega) ((made_of (by assumption)).size) ?_ rfl; intro A9 c9 w9 _ hown hgrow _; have HO9 := Lib.hid hown; have HM9 := Lib.hid (made_grown (made_of (by assumption)) hgrow (fun j ej => (HO3.out.lt j ej).1)); clear hown hgrow HO3) | (refine step_app rfl (.tmp 178) (.tmp 180) 23 rfl wr.heap.size 3 (.int .i64 0) 8 HE.out (.slice A5 ng c5) ng (got.map (Value.int .i64)) (by simp [Act.eval, Act.put]) (HO1.out) A6 nb c6 (bl.map (Value.int .i64)) (by simp [Act.eval, Act.put]) (reads_own HR7.out) (ints_one9 _) (by unfold maxLen; omega) (by omega) ((made_of (by assumption)).size) ?_ rfl; intro A7 c7 w7 _ hown hgrow _; have HO3 := Lib.hid hown; have HM7 := Lib.hid (made_grown (made_of (by assumption)) hgrow (fun j ej => (HO1.out.lt j ej).1)); clear hown hgrow HO1 HR7) | (refine step_app rfl (.tmp 173) (.tmp 177) 23 rfl wr.heap.size 3 (.int .i64 0) 8 HE.out (.slice (some ⟨wr.heap.size, 0, none⟩) 0 0) 0 [] (by simp [Act.eval, Act.put]) (own_empty (heap_alloc_new wr.drew _) (Nat.le_refl _)) Ag ng cg (got.map (Value.int .i64)) (by simp [Act.eval, Act.put]) (reads_made HRG.out (made_of (by assumption))) (ints_one9 _) (by unfold maxLen; omega) (by omega) ((made_of (by assumption)).size) ?_ rfl; intro A5 c5 w5 _ hown hgrow _; have HO1 := Lib.hid (zero_row hown); have HM5 := Lib.hid (grown_new (made_of (by assumption)) hgrow (Nat.le_refl _)); clear hown hgrow) | (refine step_app rfl (.tmp 173) (.tmp 177) 23 rfl wr.heap.size 3 (.int .i64 0) 8 HE.out (.slice (some ⟨wr.heap.size, 0, none⟩) 0 0) 0 [] (by simp [Act.eval, Act.put]) (own_empty ((HX6.out.block _ (by simp only [World.size_alloc]; exact Nat.lt_succ_self _)).trans (heap_alloc_new wr.drew _)) (Nat.le_refl _)) Ag ng cg (got.map (Value.int .i64)) (by simp [Act.eval, Act.put]) (reads_made HRG.out (made_of (by assumption))) (ints_one9 _) (by unfold maxLen; omega) (by omega) ((made_of (by assumption)).size) ?_ rfl; intro A5 c5 w5 _ hown hgrow _; have HO1 := Lib.hid (zero_row hown); have HM5 := Lib.hid (grown_new (made_of (by assumption)) hgrow (Nat.le_refl _)); have HR7 := Lib.hid (row_keep HR6.out (fun k hk => hgrow.block k (HR6.out.lt k hk).2 (own_ne (by have h1 := (HR6.out.lt k hk).1; simp only [World.size_alloc] at h1; have h3 : wr.drew.heap.size = wr.heap.size := rfl; omega)))); clear hown hgrow HR6) | (refine step_app rfl (.tmp 173) (.tmp 177) 23 rfl wr.heap.size 3 (.int .i64 0) 8 HE.out (.slice (some ⟨w6.heap.size, 0, none⟩) 0 0) 0 [] (by simp [Act.eval, Act.put]) (own_empty (heap_alloc_new w6 _) HM6.out.size) Ag ng cg (got.map (Value.int .i64)) (by simp [Act.eval, Act.put]) (reads_made HRG.out (made_of (by assumption))) (ints_one9 _) (by unfold maxLen; omega) (by omega) ((made_of (by assumption)).size) ?_ rfl; intro A5 c5 w5 _ hown hgrow _; have HO1 := Lib.hid (zero_row hown); have HM5 := Lib.hid (grown_new (made_of (by assumption)) hgrow HM6.out.size); have HR7 := Lib.hid (row_keep HR6.out (fun k hk => (hgrow.block k (by have := (HR6.out.lt k hk).2; simp only [World.size_alloc]; omega) (own_ne (by have h1 := (HR6.out.lt k hk).2; omega))).trans (heap_alloc_old _ _ (HR6.out.lt k hk).2))); clear hown hgrow HR6) | (go_at_call 24; refine (HBX.out _ (made_of (by assumption))).mono ?_; rintro e w6 ⟨A6, c6, rfl, HR6, HX6⟩; have HM6 := Lib.hid (Made.trans (made_of (by assumption)) HX6.out); have HO2 := Lib.hid (row_made HO1.out HX6.out); clear HO1; have HO1 := HO2; clear HO2; have HR7 := HR6; clear HR6) | (go_at_call 24; refine (HBX.out _ (made_of (by assumption))).mono ?_; rintro e w6 ⟨A6, c6, rfl, HR6, HX6⟩; have HM6 := Lib.hid (Made.trans (made_of (by assumption)) HX6.out)))
                    all_goals
                      go_wp2_with fail
                      go_meet
                      exact ⟨A9, c9, rfl, by show World.ownsRow _ _ _ _ _ _ _; have h := HO9.out; simpa only [List.map_append] using h, HM9⟩
                  case rest =>
                    obtain ⟨A9, c9, rfl, HO9, HM9⟩ := hcut
                    obtain ⟨all, hall⟩ : ∃ all, all = allm ms 4 := ⟨_, rfl⟩
                    have hra := HN6.out.reads (List.mem_singleton.2 rfl)
                    rw [List.length_map, ← HNA.out, ← hall] at hra
                    have HRA0 : Hid (∀ w', Below wr.heap.size wc w' → Reads w' Aa na (all.map (.int .i64))) := fun w' hb => reads_made hra (Below.trans HM9.out hb)
                    have hlen : ng + nb + j = (ths (got ++ bl ++ fl) all 0).length := by
                      have h := HO9.out.1
                      simpa [ths, nums] using h.symm
                    have hzs : (ths (got ++ bl ++ fl) all 0) = got ++ bl ++ fl := by simp [ths, nums]
                    have hzl : (got ++ bl ++ fl).length ≤ 20 := by
                      have h := HN6.out.few
                      simp only [List.length_append]
                      omega
                    have HZL := Lib.hid hzl
                    have HTP : Hid ((ths (got ++ bl ++ fl) all 20 ++ []).Perm (nums 20)) := by
                      rw [hall]
                      refine ths_perm (List.Perm.trans ?_ HN6.out.perm) HN6.out.once HN6.out.rng
                      rw [List.append_assoc]
                      exact List.perm_append_comm
                    have HNL : Hid (na = all.length) := by show _ = _; rw [hall]; exact HNA.out
                    have hna20 : na ≤ 20 := by
                      have h := HN6.out.few
                      rw [HNA.out]
                      exact h.2
                    have HF0 : Hid (Made w wc) := Made.trans HMB.out (Below.trans HN6.out.bel (Below.mono HM9.out HN6.out.bel.size))
                    have HO0 : Hid (wc.ownsRow wr.heap.size 3 1 (.slice A9 (ng + nb + j) c9) (ng + nb + j) ((ths (got ++ bl ++ fl) all 0).map (.int .i64))) := by
                      show World.ownsRow _ _ _ _ _ _ _
                      rw [hzs]
                      exact HO9.out
                    have hbs : wr.heap.size ≤ wc.heap.size := HM9.out.size
                    have hbw : w.heap.size ≤ wr.heap.size := Nat.le_trans HMB.out.size HN6.out.bel.size
                    clear hra hall HO9 HM9 HKEEP HBX HRG HNG HNB HN6 HRF6 hn20 hzs hzl
                    generalize (got ++ bl ++ fl) = zs at *
                    generalize ng + nb + j = n0 at *
                    obtain ⟨B9, hB9⟩ : ∃ B9, B9 = wr.heap.size := ⟨_, rfl⟩
                    rw [← hB9] at HO0 hbs HRA0 hbw
                    clear hB9
                    have HNN0 := Lib.hid hlen
                    clear hlen
                    go_wp2_with fail
                    go_loopw [26, 184] (fun sv kv wr => ∃ (k : Nat) (A8 : Option Addr) (n8 c8 : Nat), sv = .slice A8 n8 c8 ∧ kv = .int .i64 (k : Int) ∧ k ≤ 20 ∧ Hid (n8 = (ths zs all k).length) ∧ Hid (wr.ownsRow B9 3 1 (.slice A8 n8 c8) n8 ((ths zs all k).map (.int .i64))) ∧ Hid (Below B9 wc wr)) (fun _ kv _ => (20 - intOf kv).toNat)
                    case atStart => exact ⟨0, A9, n0, c9, rfl, rfl, by omega, HNN0, HO0, Below.refl _ _⟩
                    case round =>
                      clear HO0 HNN0
                      obtain ⟨k, A8, n8, c8, rfl, rfl, hk, HN8, HO8, HB8⟩ := hrel
                      by_cases hlt : k < 20
                      · have hn8 : n8 ≤ 40 := by have h1 := HN8.out; have h2 := ths_len (zs := zs) (all := all) k; have h3 := HZL.out; omega
                        have i0 : (0 : Int) ≤ (k : Int) := by omega
                        have i1 : (k : Int) < 20 := by omega
                        have hb8 : B9 ≤ wr.heap.size := Nat.le_trans hbs HB8.out.size
                        have HRA8 : Hid (Reads wr Aa na (all.map (.int .i64))) := HRA0.out _ HB8.out
                        go_wp2_with fail
                        go_loop [28, 189] (fun bv qv => ∃ (q : Nat), bv = .bool (decide ((k : Int) ∈ all.take q)) ∧ qv = .int .i64 (q : Int) ∧ q ≤ na) (fun _ qv => (na - intOf qv).toNat)
                        case atStart => exact ⟨0, by simp, rfl, by omega⟩
                        case round =>
                          obtain ⟨q, rfl, rfl, hq⟩ := hrel
                          by_cases hqn : q < na
                          · obtain ⟨t, ht⟩ : ∃ t, all[q]? = some t := ⟨_, List.getElem?_eq_getElem (by have := HNL.out; omega)⟩
                            obtain ⟨da, rfl, hca⟩ := HRA8.out.2 q (.int .i64 t) (by rw [List.getElem?_map, ht]; rfl)
                            have q0 : (0 : Int) ≤ (q : Int) := by omega
                            have q1 : (q : Int) < (na : Int) := by omega
                            have hmt := mem_take_succ (t := (k : Int)) ht
                            by_cases hm : (k : Int) ∈ all.take q
                            · have hd : decide ((k : Int) ∈ all.take q) = true := decide_eq_true hm
                              have hd2 : Hid (decide ((k : Int) ∈ all.take (q + 1)) = true) := decide_eq_true (hmt.2 (Or.inl hm))
                              rw [hd]
                              clear hmt hm hd
                              go_wp2_with fail
                              go_round
                              case rel => exact ⟨q + 1, by rw [hd2.out], by go_num, by omega⟩
                              case measure => simp [intOf]; omega
                            · have hd : decide ((k : Int) ∈ all.take q) = false := decide_eq_false hm
                              by_cases hkt : t = (k : Int)
                              · have hd2 : Hid (decide ((k : Int) ∈ all.take (q + 1)) = true) := decide_eq_true (hmt.2 (Or.inr hkt))
                                subst hkt
                                rw [hd]
                                clear hmt hm hd
                                go_wp2_with fail
                                go_round
                                case rel => exact ⟨q + 1, by rw [hd2.out], by go_num, by omega⟩
                                case measure => simp [intOf]; omega
                              · have hd2 : Hid (decide ((k : Int) ∈ all.take (q + 1)) = false) := decide_eq_false (fun e => (hmt.1 e).elim hm hkt)
                                have e1 : (t == (k : Int)) = false := by simpa using hkt
                                rw [hd]
                                clear hmt hm hd
                                go_wp2_with fail
                                go_round
                                case rel => exact ⟨q + 1, by rw [hd2.out], by go_num, by omega⟩
                                case measure => simp [intOf]; omega
                          · obtain rfl : q = na := by omega
                            have htk : all.take q = all := List.take_of_length_le (by have := HNL.out; omega)
                            rw [htk]
                            have hths := ths_succ zs all k
                            clear HRA8 htk
                            by_cases hm : (k : Int) ∈ all
                            · have hd : decide ((k : Int) ∈ all) = true := decide_eq_true hm
                              rw [if_pos hm] at hths
                              have HTS := Lib.hid hths
                              rw [hd]
                              clear hm hd hths
                              go_wp2_with fail
                              go_roundw
                              case rel => exact ⟨k + 1, _, _, _, rfl, by go_num, by omega, by rw [HTS.out]; exact HN8, by rw [HTS.out]; exact HO8, HB8⟩
                              case measure => simp [intOf]; omega
                            · have hd : decide ((k : Int) ∈ all) = false := decide_eq_false hm
                              rw [if_neg hm] at hths
                              have HTS := Lib.hid hths
                              rw [hd]
                              clear hm hd hths
                              go_wp2_with (at_builtin; (refine wpList_app _ rfl (.tmp 202) (.tmp 204) 23 rfl B9 3 (.int .i64 0) 8 HE.out (.slice A8 n8 c8) n8 ((ths zs all k).map (.int .i64)) (by simp [Act.eval, Act.put]) (World.ownsRow.alloc HO8.out _) (some ⟨wr.heap.size, 0, none⟩) 1 1 [.int .i64 (k : Int)] (by simp [Act.eval, Act.put]) (Reads.row (cs := #[.int .i64 (k : Int)]) (heap_alloc_new wr _) rfl) (by simp [Value.oneCell']) (by unfold maxLen; omega) (by omega) (by simp only [World.size_alloc]; omega) ?_; intro A5 c5 w5 hown hgrow _; have HB5 := Lib.hid ((HB8.out.alloc hb8 _).grown hgrow (by simp only [World.size_alloc]; omega) (fun j ej => (HO8.out.lt j ej).1)); have HO5 := Lib.hid hown; clear hown hgrow))
                              go_roundw
                              case rel => exact ⟨k + 1, _, _, _, rfl, by go_num, by omega, by rw [HTS.out]; show _ = _; rw [HN8.out]; simp, by rw [HTS.out]; show World.ownsRow _ _ _ _ _ _ _; simpa only [List.map_append, List.map_cons, List.map_nil] using HO5.out, HB5⟩
                              case measure => simp [intOf]; omega
                      · obtain rfl : k = 20 := by omega
                        have hn8 : n8 ≤ 40 := by have h1 := HN8.out; have h2 := ths_len (zs := zs) (all := all) 20; have h3 := HZL.out; omega
                        have HEC : Hid (Calls Try.prog 28 #[.slice A8 n8 c8, .slice none 0 0, .int .i64 20] wr fun e w' => e = .returned (.bool true) ∧ Made wr w') := Each_c A8 none n8 0 c8 0 20 (ths zs all 20) [] (by omega) wr (reads_own HO8.out) ⟨rfl, fun j u hu => by simp at hu⟩ HTP.out
                        have HFE : Hid (Below w.heap.size w wr) := Below.trans HF0.out (Below.mono HB8.out hbw)
                        clear HO8 HB8 HN8 HTP
                        go_wp2_with fail
                        refine HEC.out.mono ?_
                        rintro e w9 ⟨rfl, hm9⟩
                        have HFF : Hid (Made w w9) := Below.trans HFE.out (Below.mono hm9 HFE.out.size)
                        clear hm9 HEC HFE
                        go_wp2_with fail
                        go_ret
                        exact ⟨rfl, HFF.out⟩
theorem many9 (zs : List Int) (v : Value) (ds : List Int) (nd : Int) (u : Value) (ps : List Int) (w : World) (hl : zs.length = 4) (hz : ∀ z ∈ zs, (Lit.int .u8 z).wf = true) (hv : SlK .i64 w v ds) (hds : ∀ z ∈ ds, (Lit.int .i64 z).wf = true) (hnd : (Lit.int .u8 nd).wf = true) (hu : SlK .i64 w u ps) (_ : ∀ z ∈ ps, (Lit.int .i64 z).wf = true) :
    Calls Try.prog 7 #[.agg (zs.map (Value.int .u8)).toArray, v, .int .u8 nd, u] w fun e w' => e = .returned (.bool true) ∧ Made w w' := by
  obtain ⟨z0, z1, z2, z3, rfl⟩ := four9 zs hl
  obtain ⟨N0, rfl, h0⟩ := u8_of9' (hz z0 (by simp))
  obtain ⟨N1, rfl, h1⟩ := u8_of9' (hz z1 (by simp))
  obtain ⟨N2, rfl, h2⟩ := u8_of9' (hz z2 (by simp))
  obtain ⟨N3, rfl, h3⟩ := u8_of9' (hz z3 (by simp))
  obtain ⟨Nd, rfl, h4⟩ := u8_of9' hnd
  obtain ⟨A, c, rfl, f1, f2, f3⟩ := slk_rdv hv
  obtain ⟨A', c', rfl, g1, g2, g3⟩ := slk_rdv hu
  unfold maxLen at f2 g2
  by_cases hp : 400 < ps.length
  · exact many9_far _ _ _ _ _ A A' _ _ _ _ (by omega) (by omega) (.picks (by omega)) w
  · by_cases hd : 400 < ds.length
    · exact many9_far _ _ _ _ _ A A' _ _ _ _ (by omega) (by omega) (.dying (by omega) (by omega)) w
    · exact many9_near N0 N1 N2 N3 Nd _ _ _ _ A A' ds ps h0 h1 h2 h3 h4 (by omega) (by omega) (Lib.hid rfl) (Lib.hid rfl) w (Lib.hid f3) (Lib.hid g3) (Lib.hid (i64_of9 hds))
end Go.Proofs.Ytndpkonihcebeaa.Kod.Nine
