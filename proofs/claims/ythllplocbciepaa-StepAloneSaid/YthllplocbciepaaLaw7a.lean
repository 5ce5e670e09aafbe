/- Layer 7, StepOne: true whatever the input. -/
import Derived.Test.YthllplocbciepaaCode7b
import Derived.Test.YthllplocbciepaaPure7
import Derived.Test.YthllplocbciepaaSpk7
namespace Go.Proofs.Ythllplocbciepaa.Cod.Seven
open Go.RowKit Go.Proofs.Ythllplocbciepaa Go.Proofs.Ythllplocbciepaa.Cell
set_option linter.unusedVariables false
set_option linter.unusedSimpArgs false
attribute [local go_sem] run_max_two run_min_two

theorem at_end {α : Type} {l : List α} {x : α} {n : Nat} (h : l.length = n) : (l ++ [x])[n]? = some x := by
  subst h
  simp
/-- The count of accesses, read. -/
theorem Count_i {S : Sys} {n : Nat} {σ : St S.R} {rs : List Value} {L : Lay} {w : World} (h : Inv S n σ rs L w) : Calls Try.prog 43 #[.pointer (some ⟨S.a, 0, none⟩)] w fun e w' => e = .returned (.int .i64 σ.c) ∧ w = w' := Count_c h.ar
/-- How many steps a task has done, read. -/
theorem Steps_i {S : Sys} {m n : Nat} {M : Mach S} {rs : List Value} {L : Lay} {w : World} (h : Ready S m n M rs L w) {i t s : Nat} (ht : L.ts[i]? = some t) (hs : M.σ.steps[i]? = some s) :
    Calls Try.prog 40 #[.pointer (some ⟨t, 0, none⟩)] w fun e w' => e = .returned (.int .i64 (s : Int)) ∧ w = w' := by
  obtain ⟨k, v, s', h1, h2, h3, h4, h5⟩ := h.at ht
  rw [hs] at h3
  obtain rfl := Option.some.inj h3
  exact steps_of h5

/-- The beginning: an arena, a sum in a box of its own. -/
theorem begin7 {N : Nat} {w : World} {a b : Nat} {xs : List Int} (hA : Arena w a b 0 xs) (hw : ∀ x ∈ xs, 0 ≤ x ∧ x < 18446744073709551616) (hl : xs.length ≤ 1048576) (hN : N < 4611686018427387904) :
    Inv (S7 a b w.heap.size 1) N ⟨0, xs, [], ⟨[0], []⟩⟩ [] ⟨[], fun k => k = w.heap.size⟩ (w.alloc (.cells #[.int .u64 0] 22)) := by
  have h1 := (Array.getElem?_eq_some_iff.1 hA.ha).1
  have h2 := (Array.getElem?_eq_some_iff.1 hA.hb).1
  refine Inv.start (S := S7 a b w.heap.size 1) (hA.later ((Made.refl w).alloc (Nat.le_refl _) _)) hw hl hN ?_ ⟨rfl, heap_alloc_new _ _, rfl, ?_, fun p hp => by simp at hp⟩
  · rintro k rfl
    exact ⟨by show _ ≠ a; omega, by show _ ≠ b; omega, by simp only [World.size_alloc]; omega⟩
  · intro x hx
    simp at hx
    omega
set_option maxRecDepth 100000 in
set_option maxHeartbeats 2000000 in
theorem one_loop (A : Option Addr) (n c : Nat) (l : List Acc) (most : Int) (hn : Hid (n = l.length)) (h30 : n ≤ 30) (hnc : n ≤ c) (hc : c ≤ 9223372036854775807) (w : World) (hl : Hid (RdA w w.heap.size A l)) (hwf : Hid (∀ z ∈ l, z.Wf)) :
    Calls Try.prog 8 #[.slice A n c, .int .i64 most] w fun e w' => e = .returned (.bool true) ∧ Made w w' := by
  have HNW : Hid (∀ w, Calls Try.prog 36 #[.int .i64 4] w fun e w' => ∃ a b, e = .returned (.tuple #[.pointer (some ⟨a, 0, none⟩), .int .i64 0]) ∧ Arena w' a b 0 (List.replicate 4 0) ∧ w.heap.size ≤ a ∧ w.heap.size ≤ b ∧ Made w w') := fun w => New_ex 4 (by omega) (by omega) w
  have hn30 : ¬ 30 < (n : Int) := by omega
  go_enter Try.func8, Try.ntmps8
  go_wp2_with fail
  refine (Spk7.speaks_c _).mono ?_
  rintro e w0 ⟨rfl, hm0⟩
  go_wp2_with fail
  refine (HNW.out _).mono ?_
  rintro e w1 ⟨a, b, rfl, hA, hwa, hwb, hm1⟩
  have HM1 := Lib.hid (Made.trans hm0 hm1)
  have HA := Lib.hid hA
  have hwa' : w.heap.size ≤ a := Nat.le_trans hm0.size hwa
  have hwb' : w.heap.size ≤ b := Nat.le_trans hm0.size hwb
  clear hA hm0 hm1 HNW hwa hwb
  go_wp2_with fail
  have HI2 := Lib.hid (begin7 (N := 4000) HA.out (zeros_wide 4) (by simp) (by omega))
  have HM2 := Lib.hid (Made.trans HM1.out ((Made.refl w1).alloc (Nat.le_refl _) (.cells #[.int .u64 0] 22)))
  have HO2 : Hid (Old (S7 a b w1.heap.size 1) w.heap.size (w1.alloc (.cells #[.int .u64 0] 22)) ⟨[], fun k => k = w1.heap.size⟩) := ⟨HM2.out.size, fun k hk e => by have := HM1.out.size; simp [Mut, S7] at e; omega⟩
  generalize w1.alloc (.cells #[.int .u64 0] 22) = w2 at *
  generalize w1.heap.size = sb at *
  clear HM1 HA hwa' hwb'
  refine (code_all l 200 0 w.heap.size w2 _ A n c hn hnc hc (by omega) (fun k hk => HI2.out.mut_lt hk) HO2.out (hl.out.later HM2.out) hwf.out).mono ?_
  rintro e w3 ⟨v1, rfl, hm3, hr3⟩
  have HR4 := Lib.hid ((Ready.start (m := 200) (HI2.out.later hm3)).addtask hr3)
  have HV1 := Lib.hid hr3.func
  have HM4 := Lib.hid (Made.trans (Made.trans HM2.out hm3) ((Made.refl _).alloc (Nat.le_refl _) (.cells #[v1, .int .i64 0] 117)))
  have HO4 := Lib.hid ((HO2.out.later (Ext.of_made hm3)).later (Ext.addtask v1))
  clear hm3 hr3 HI2 HO2 HM2
  go_wp2_with fail
  refine (New_c HV1.out).mono ?_
  rintro e w4 ⟨rfl, rfl⟩
  generalize w3.alloc (.cells #[v1, .int .i64 0] 117) = w4 at *
  generalize w3.heap.size = t at *
  obtain ⟨M0, hM0⟩ : ∃ M0 : Mach (S7 a b sb 1), M0 = ⟨[(0, l)], ⟨0, [0, 0, 0, 0], [0], ⟨[0], []⟩⟩⟩ := ⟨_, rfl⟩
  obtain ⟨L0, hL0⟩ : ∃ L0 : Lay, L0 = ⟨[t], fun k => k = sb⟩ := ⟨_, rfl⟩
  have HR5 : Hid (Ready (S7 a b sb 1) 200 4000 M0 [v1] L0 w4) := by rw [hM0, hL0]; exact HR4.out
  have HO5 : Hid (Old (S7 a b sb 1) w.heap.size w4 L0) := by rw [hL0]; exact HO4.out
  have HK0 : Hid (M0.ks[0]? = some (0, l)) := by rw [hM0]; rfl
  have HS0 : Hid (M0.σ.steps[0]? = some 0) := by rw [hM0]; rfl
  have HT0 : Hid (L0.ts = [t]) := by rw [hL0]; rfl
  have HLN : Hid (M0.ks.length = 1) := by rw [hM0]; rfl
  clear hM0 hL0 HR4 HO4 HV1
  go_wp2_with fail
  go_loopw [38] (fun iv wr => ∃ (k : Nat) (rs' : List Value) (L' : Lay), k ≤ n ∧ iv = .int .i64 k ∧ Hid (Ready (S7 a b sb 1) (200 - k) (4000 - 2 * k) (M0.fin 0 k) rs' L' wr) ∧ Hid (Ext (S7 a b sb 1) w4 L0 wr L') ∧ Hid (L'.ts = [t])) (fun iv _ => (n - intOf iv).toNat)
  case atStart => exact ⟨0, [v1], L0, by omega, rfl, HR5, Lib.hid (Ext.refl _ _), HT0⟩
  case round =>
    obtain ⟨k, rs', L', hk, rfl, HRk, HX, HTS⟩ := hrel
    clear HR5
    by_cases hlt : k < n
    · have ht0 : L'.ts[0]? = some t := by rw [HTS.out]; rfl
      obtain ⟨hka, hsa⟩ := fin_at HK0.out HS0.out k
      have hnl := hn.out
      have HE : Hid (Calls Try.prog 41 #[.pointer (some ⟨t, 0, none⟩)] wr fun e w' => e = .returned (.bool false) ∧ wr = w') := by
        have h := Ended_c HRk.out ht0 hka
        have e : (S7 a b sb 1).nil (0, l.drop k) = false := by show (l.drop k).isEmpty = false; rw [List.isEmpty_eq_false_iff]; intro e; have := congrArg List.length e; simp at this; omega
        rw [e] at h
        exact h
      have HCt := Lib.hid (Count_i HRk.out.inv)
      have hr2 : Ready (S7 a b sb 1) (200 - (k + 1) + 1) (4000 - 2 * (k + 1) + 2) (M0.fin 0 k) rs' L' wr := by
        have := HRk.out
        rw [show 200 - k = 200 - (k + 1) + 1 by omega, show 4000 - 2 * k = 4000 - 2 * (k + 1) + 2 by omega] at this
        exact this
      have hstep := Step_c hr2 ht0 hka
      obtain ⟨hkb, hsb⟩ := fin_at HK0.out HS0.out (k + 1)
      rw [show 0 + min (k + 1) l.length = k + 1 by omega] at hsb
      have hcc := fin_c M0 0 k
      have hc0 := HRk.out.inv.ar.c0
      have hc1 := HRk.out.inv.ar.c1
      have HST : Hid (Calls Try.prog 44 #[.pointer (some ⟨t, 0, none⟩)] wr fun e w2 => e = .returned (.bool (decide (n = k + 1))) ∧ ∃ rs2 L2, Hid (Ready (S7 a b sb 1) (200 - (k + 1)) (4000 - 2 * (k + 1)) (M0.fin 0 (k + 1)) rs2 L2 w2) ∧ Hid (Ext (S7 a b sb 1) w4 L0 w2 L2) ∧ Hid (L2.ts = [t])) := by
        refine hstep.mono ?_
        rintro e w2 ⟨rs2, L2, k2, hk2, rfl, hx2, hts2, hr2'⟩
        have hk2' : (M0.fin 0 (k + 1)).ks[0]? = some k2 := hk2
        rw [hkb] at hk2'
        obtain rfl := Option.some.inj hk2'
        refine ⟨?_, rs2, L2, hr2', HX.out.trans hx2, hts2.trans HTS.out⟩
        have e : (S7 a b sb 1).nil (0, l.drop (k + 1)) = decide (n = k + 1) := by
          show (l.drop (k + 1)).isEmpty = _
          rw [Bool.eq_iff_iff]
          simp
          omega
        rw [e]
      have HSB := Lib.hid hsb
      obtain ⟨c0, hc0e⟩ : ∃ c0, c0 = (M0.fin 0 k).σ.c := ⟨_, rfl⟩
      obtain ⟨c1, hc1e⟩ : ∃ c1, c1 = (M0.fin 0 (k + 1)).σ.c := ⟨_, rfl⟩
      rw [← hc0e] at HCt hcc hc0 hc1
      rw [← hc1e] at hcc
      have HC1 := Lib.hid hc1e
      have hle : ¬ c0 + 1 < c1 := by omega
      have i0 : (0 : Int) ≤ (k : Int) := by omega
      have i1 : (k : Int) < (n : Int) := by omega
      clear hka hsa hkb hsb hr2 hstep hc0e hc1e hcc hnl
      go_wp2_with fail
      refine HCt.out.mono ?_
      rintro e w5 ⟨rfl, rfl⟩
      go_wp2_with fail
      refine HE.out.mono ?_
      rintro e w5 ⟨rfl, rfl⟩
      go_wp2_with fail
      refine HST.out.mono ?_
      rintro e w5 ⟨rfl, rs2, L2, HR2, HX2, HT2⟩
      have HC2 : Hid (Calls Try.prog 43 #[.pointer (some ⟨a, 0, none⟩)] w5 fun e w' => e = .returned (.int .i64 c1) ∧ w5 = w') := by show Calls _ _ _ _ _; rw [HC1.out]; exact Count_i HR2.out.inv
      have HS2 : Hid (Calls Try.prog 40 #[.pointer (some ⟨t, 0, none⟩)] w5 fun e w' => e = .returned (.int .i64 ((k : Int) + 1)) ∧ w5 = w') := Steps_i (s := k + 1) HR2.out (by rw [HT2.out]; rfl) HSB.out
      clear HST HCt HE HSB HC1
      by_cases hl1 : n = k + 1
      · have hb : decide (n = k + 1) = true := by simp [hl1]
        have hq : ((k : Int) == (n : Int) - 1) = true := by simp; omega
        rw [hb]
        clear hb hl1
        go_wp2_with fail
        refine HC2.out.mono ?_
        rintro e w6 ⟨rfl, rfl⟩
        go_wp2_with fail
        refine HS2.out.mono ?_
        rintro e w6 ⟨rfl, rfl⟩
        go_wp2_with fail
        go_roundw
        case rel => exact ⟨k + 1, rs2, L2, by omega, by go_num, HR2, HX2, HT2⟩
        case measure => simp [intOf]; omega
      · have hb : decide (n = k + 1) = false := by simp [hl1]
        have hq : ((k : Int) == (n : Int) - 1) = false := by simp; omega
        rw [hb]
        clear hb hl1
        go_wp2_with fail
        refine HC2.out.mono ?_
        rintro e w6 ⟨rfl, rfl⟩
        go_wp2_with fail
        refine HS2.out.mono ?_
        rintro e w6 ⟨rfl, rfl⟩
        go_wp2_with fail
        go_roundw
        case rel => exact ⟨k + 1, rs2, L2, by omega, by go_num, HR2, HX2, HT2⟩
        case measure => simp [intOf]; omega
    · obtain rfl : n = k := by omega
      have ht0 : L'.ts[0]? = some t := by rw [HTS.out]; rfl
      obtain ⟨hka, hsa⟩ := fin_at HK0.out HS0.out n
      have hnl := hn.out
      rw [List.drop_eq_nil_of_le (by omega)] at hka
      rw [show 0 + min n l.length = n by omega] at hsa
      have hlen1 : (M0.fin 0 n).ks.length = 1 := by rw [Mach.fin_len, HLN.out]
      have HOn := Lib.hid (HO5.out.later HX.out)
      have HMn := Lib.hid (Below.trans HM4.out (HO5.out.below HX.out))
      have hr0 : Ready (S7 a b sb 1) 170 3800 (M0.fin 0 n) rs' L' wr := HRk.out.lower (by omega) (by omega)
      generalize M0.fin 0 n = M at hka hsa hlen1 hr0
      have hov : M.over 0 = true := by rw [over_at hka]; rfl
      have hst0 : M.step 0 = M := Mach.step_over hov
      have hfn0 : M.fin 0 5 = M := Mach.fin_over (M := M) (i := 0) (j := 0) hov 5
      have HCt := Lib.hid (Count_i hr0.inv)
      have HE : Hid (Calls Try.prog 41 #[.pointer (some ⟨t, 0, none⟩)] wr fun e w' => e = .returned (.bool true) ∧ wr = w') := Ended_c hr0 ht0 hka
      have HST : Hid (Calls Try.prog 44 #[.pointer (some ⟨t, 0, none⟩)] wr fun e w2 => e = .returned (.bool true) ∧ ∃ rs2 L2, Hid (Ready (S7 a b sb 1) 160 3700 M rs2 L2 w2) ∧ Hid (Ext (S7 a b sb 1) wr L' w2 L2) ∧ Hid (L2.ts = [t])) := by
        refine (Step_c (m := 160) (n := 3700) (hr0.lower (by omega) (by omega)) ht0 hka).mono ?_
        rintro e w2 ⟨rs2, L2, k2, hk2, rfl, hx2, hts2, hr2'⟩
        rw [hst0] at hk2 hr2'
        rw [hka] at hk2
        obtain rfl := Option.some.inj hk2
        exact ⟨rfl, rs2, L2, hr2', hx2, hts2.trans HTS.out⟩
      have HKA := Lib.hid hka
      have HSA := Lib.hid hsa
      have HOV := Lib.hid hov
      have HFN := Lib.hid hfn0
      have HL1 := Lib.hid hlen1
      have i0 : (0 : Int) ≤ (n : Int) := by omega
      obtain ⟨c0, hc0e⟩ : ∃ c0, c0 = M.σ.c := ⟨_, rfl⟩
      have HC0 := Lib.hid hc0e
      rw [← hc0e] at HCt
      clear hka hsa hov hfn0 hlen1 hst0 hr0 hc0e hnl HRk HX HTS ht0 HK0 HS0 HT0 HLN HO5 HM4
      go_wp2_with fail
      refine HCt.out.mono ?_
      rintro e w5 ⟨rfl, rfl⟩
      go_wp2_with fail
      refine HE.out.mono ?_
      rintro e w5 ⟨rfl, rfl⟩
      go_wp2_with fail
      refine HST.out.mono ?_
      rintro e w6 ⟨rfl, rs2, L2, HR2, HX2, HT2⟩
      have HFI : Hid (Calls Try.prog 45 #[.pointer (some ⟨t, 0, none⟩), .int .i64 5] w6 fun e w2 => e = .returned (.bool true) ∧ ∃ rs3 L3, Hid (Ready (S7 a b sb 1) 160 3700 M rs3 L3 w2) ∧ Hid (Ext (S7 a b sb 1) wr L' w2 L3) ∧ Hid (L3.ts = [t])) := by
        refine (Finish_c (m := 160) (n := 3700) (N := 0) HR2.out (i := 0) (t := t) (by rw [HT2.out]; rfl) 5 (fun j _ h => by
          have := Mach.fin_over (M := M) (i := 0) (j := 0) HOV.out j
          rw [Nat.zero_add] at this
          rw [this] at h
          have h2 : M.over 0 = false := h
          rw [HOV.out] at h2
          simp at h2)).mono ?_
        rintro e w2 ⟨rs3, L3, rfl, hx3, hts3, hr3⟩
        have e5 : M.fin 0 (5 : Int).toNat = M := HFN.out
        rw [e5] at hr3 ⊢
        exact ⟨by rw [HOV.out], rs3, L3, hr3, HX2.out.trans hx3, hts3.trans HT2.out⟩
      clear HST HCt HE
      go_wp2_with fail
      refine HFI.out.mono ?_
      rintro e w7 ⟨rfl, rs3, L3, HR3, HX3, HT3⟩
      have HS3 : Hid (Calls Try.prog 40 #[.pointer (some ⟨t, 0, none⟩)] w7 fun e w' => e = .returned (.int .i64 (n : Int)) ∧ w7 = w') := Steps_i HR3.out (by rw [HT3.out]; rfl) HSA.out
      have HC3 : Hid (Calls Try.prog 43 #[.pointer (some ⟨a, 0, none⟩)] w7 fun e w' => e = .returned (.int .i64 c0) ∧ w7 = w') := by show Calls _ _ _ _ _; rw [HC0.out]; exact Count_i HR3.out.inv
      clear HFI HR2 HX2 HT2
      go_wp2_with fail
      refine HS3.out.mono ?_
      rintro e w8 ⟨rfl, rfl⟩
      go_wp2_with fail
      refine HC3.out.mono ?_
      rintro e w8 ⟨rfl, rfl⟩
      have HO7 := Lib.hid (HOn.out.later HX3.out)
      have HM7 := Lib.hid (Below.trans HMn.out (HOn.out.below HX3.out))
      have HCO := Lib.hid (code_all (a := a) (b := b) (sb := sb) (ns := 1) l 160 0 w.heap.size w7 L3 A n c hn hnc hc (by omega) (fun k hk => HR3.out.inv.mut_lt hk) HO7.out (hl.out.later HM7.out) hwf.out)
      clear HS3 HC3 HX3 HOn HMn
      go_wp2_with fail
      refine HCO.out.mono ?_
      rintro e w8 ⟨v2, rfl, hm8, hr8⟩
      have HR9 := Lib.hid ((HR3.out.later hm8).addtask hr8)
      have HV2 := Lib.hid hr8.func
      have HO9 := Lib.hid ((HO7.out.later (Ext.of_made hm8)).later (Ext.addtask v2))
      have HM9 := Lib.hid (Below.trans (Below.trans HM7.out (HO7.out.below (Ext.of_made hm8))) ((HO7.out.later (Ext.of_made hm8)).below (Ext.addtask v2)))
      clear hm8 hr8 HR3 HCO HO7 HM7
      go_wp2_with fail
      refine (New_c HV2.out).mono ?_
      rintro e w9 ⟨rfl, rfl⟩
      generalize w8.alloc (.cells #[v2, .int .i64 0] 117) = w9 at *
      generalize w8.heap.size = t2 at *
      have HT9 : Hid ((⟨L3.ts ++ [t2], L3.own⟩ : Lay).ts[1]? = some t2) := by show (L3.ts ++ [t2])[1]? = _; rw [HT3.out]; rfl
      obtain ⟨kz, hkz⟩ : ∃ kz : (S7 a b sb 1).K, kz = (0, l) := ⟨_, rfl⟩
      obtain ⟨M2, hM2⟩ : ∃ M2 : Mach (S7 a b sb 1), M2 = ⟨M.ks ++ [kz], { M.σ with steps := M.σ.steps ++ [0] }⟩ := ⟨_, rfl⟩
      have hk9 : M2.ks[1]? = some (0, l) := by
        have h9 : (M.ks ++ [kz])[1]? = some kz := at_end HL1.out
        rw [hM2]
        subst hkz
        exact h9
      have hl9 : M2.σ.steps.length = 2 := by
        have h1 := HR9.out.inv.nst
        have h2 := HR9.out.len
        rw [← h2] at h1
        rw [hM2]
        simp only [List.length_append, List.length_singleton] at h1 ⊢
        rw [HL1.out] at h1
        omega
      have hs9 : M2.σ.steps[1]? = some 0 := by
        rw [hM2] at hl9 ⊢
        simp only [List.length_append, List.length_singleton] at hl9 ⊢
        rw [List.getElem?_append_right (by omega), show 1 - M.σ.steps.length = 0 by omega]
        rfl
      have HR9' : Hid (Ready (S7 a b sb 1) (130 + 30) (3640 + 2 * 30) M2 (rs3 ++ [v2]) ⟨L3.ts ++ [t2], L3.own⟩ w9) := by rw [hM2, hkz]; exact HR9.out
      have hfa := fin_at hk9 hs9 most.toNat
      have hfo := fin_over hk9 hs9 most.toNat
      have HFI : Hid (Calls Try.prog 45 #[.pointer (some ⟨t2, 0, none⟩), .int .i64 most] w9 fun e w2 => e = .returned (.bool (decide (n ≤ most.toNat))) ∧ ∃ rs3 L4, Hid (Ready (S7 a b sb 1) 130 3640 (M2.fin 1 most.toNat) rs3 L4 w2) ∧ Hid (Ext (S7 a b sb 1) w9 ⟨L3.ts ++ [t2], L3.own⟩ w2 L4) ∧ Hid (L4.ts[1]? = some t2)) := by
        refine (Finish_c (m := 130) (n := 3640) (N := 30) HR9'.out (i := 1) (t := t2) HT9.out most (fun j _ h => by
          rw [fin_over hk9 hs9] at h
          have := hn.out
          simp at h
          omega)).mono ?_
        rintro e w2 ⟨rs3, L3, rfl, hx3, hts3, hr3⟩
        exact ⟨by rw [hfo, hn.out], rs3, L3, hr3, hx3, by show _ = _; rw [hts3]; exact HT9.out⟩
      have HSF : Hid ((M2.fin 1 most.toNat).σ.steps[1]? = some (min most.toNat n)) := by show _ = _; rw [hfa.2, ← hn.out, Nat.zero_add]
      clear hfa hfo hk9 hs9 hl9 hM2 hkz HR9 HR9' HT9 HV2 HL1 HOV HFN HKA HSA HC0
      go_wp2_with fail
      refine HFI.out.mono ?_
      rintro e w10 ⟨rfl, rs4, L4, HR4, HX4, HT4⟩
      have HS4 : Hid (Calls Try.prog 40 #[.pointer (some ⟨t2, 0, none⟩)] w10 fun e w' => e = .returned (.int .i64 ((min most.toNat n : Nat) : Int)) ∧ w10 = w') := Steps_i HR4.out HT4.out HSF.out
      have HMF := Lib.hid (Below.trans HM9.out (HO9.out.below HX4.out))
      clear HFI HR4 HX4 HT4 HM9 HO9 HSF
      by_cases hneg : most < 0
      · by_cases hz : (n : Int) ≤ 0
        · have hd : decide (n ≤ most.toNat) = true := by simp; omega
          rw [hd]
          have HS5 : Hid (Calls Try.prog 40 #[.pointer (some ⟨t2, 0, none⟩)] w10 fun e w' => e = .returned (.int .i64 0) ∧ w10 = w') := by
            have h := HS4.out
            rw [show ((min most.toNat n : Nat) : Int) = 0 by omega] at h
            exact h
          clear HS4 hd
          go_wp2_with fail
          refine HS5.out.mono ?_
          rintro e w11 ⟨rfl, rfl⟩
          go_wp2_with fail
          go_ret
          exact ⟨rfl, HMF.out⟩
        · have hd : decide (n ≤ most.toNat) = false := by simp; omega
          rw [hd]
          have HS5 : Hid (Calls Try.prog 40 #[.pointer (some ⟨t2, 0, none⟩)] w10 fun e w' => e = .returned (.int .i64 0) ∧ w10 = w') := by
            have h := HS4.out
            rw [show ((min most.toNat n : Nat) : Int) = 0 by omega] at h
            exact h
          clear HS4 hd
          go_wp2_with fail
          refine HS5.out.mono ?_
          rintro e w11 ⟨rfl, rfl⟩
          go_wp2_with fail
          go_ret
          exact ⟨rfl, HMF.out⟩
      · by_cases hz : (n : Int) < most
        · have hd : decide (n ≤ most.toNat) = true := by simp; omega
          rw [hd]
          have HS5 : Hid (Calls Try.prog 40 #[.pointer (some ⟨t2, 0, none⟩)] w10 fun e w' => e = .returned (.int .i64 n) ∧ w10 = w') := by
            have h := HS4.out
            rw [show ((min most.toNat n : Nat) : Int) = n by omega] at h
            exact h
          clear HS4 hd
          have hz2 : decide ((n : Int) ≤ most) = true := by simp; omega
          go_wp2_with fail
          refine HS5.out.mono ?_
          rintro e w11 ⟨rfl, rfl⟩
          go_wp2_with fail
          go_ret
          exact ⟨rfl, HMF.out⟩
        · by_cases hz3 : (n : Int) = most
          · have hd : decide (n ≤ most.toNat) = true := by simp; omega
            rw [hd]
            have HS5 : Hid (Calls Try.prog 40 #[.pointer (some ⟨t2, 0, none⟩)] w10 fun e w' => e = .returned (.int .i64 n) ∧ w10 = w') := by
              have h := HS4.out
              rw [show ((min most.toNat n : Nat) : Int) = n by omega] at h
              exact h
            clear HS4 hd
            subst hz3
            go_wp2_with fail
            refine HS5.out.mono ?_
            rintro e w11 ⟨rfl, rfl⟩
            go_wp2_with fail
            go_ret
            exact ⟨rfl, HMF.out⟩
          · have hd : decide (n ≤ most.toNat) = false := by simp; omega
            rw [hd]
            have HS5 : Hid (Calls Try.prog 40 #[.pointer (some ⟨t2, 0, none⟩)] w10 fun e w' => e = .returned (.int .i64 most) ∧ w10 = w') := by
              have h := HS4.out
              rw [show ((min most.toNat n : Nat) : Int) = most by omega] at h
              exact h
            clear HS4 hd
            have hz2 : decide ((n : Int) ≤ most) = false := by simp; omega
            clear hz3
            go_wp2_with fail
            refine HS5.out.mono ?_
            rintro e w11 ⟨rfl, rfl⟩
            go_wp2_with fail
            go_ret
            exact ⟨rfl, HMF.out⟩

set_option maxRecDepth 100000 in
set_option maxHeartbeats 400000 in
theorem one_far (A : Option Addr) (n c : Nat) (most : Int) (hn : 30 < n) (hn' : (n : Int) ≤ 9223372036854775807) (w : World) :
    Calls Try.prog 8 #[.slice A n c, .int .i64 most] w fun e w' => e = .returned (.bool true) ∧ Made w w' := by
  have hn1 : 30 < (n : Int) := by omega
  go_enter Try.func8, Try.ntmps8
  go_wp2_with fail
  refine (Spk7.speaks_c _).mono ?_
  rintro e w0 ⟨rfl, hm0⟩
  go_wp2_with fail
  refine (Spk7.speaks_c _).mono ?_
  rintro e w1 ⟨rfl, hm1⟩
  go_wp2_with fail
  go_ret
  exact ⟨rfl, Made.trans hm0 hm1⟩
theorem one (v : Value) (l : List Acc) (most : Int) (w : World) (hv : SlA w v l) (hm : (Lit.int .i64 most).wf = true) :
    Calls Try.prog 8 #[v, .int .i64 most] w fun e w' => e = .returned (.bool true) ∧ Made w w' := by
  obtain ⟨A, c, rfl, _, hlc, hc, hr, hwf⟩ := hv
  unfold maxLen at hc
  clear hm
  by_cases h30 : l.length ≤ 30
  · exact one_loop A l.length c l most rfl h30 hlc (by omega) w hr hwf
  · exact one_far A l.length c most (by omega) (by omega) w
end Go.Proofs.Ythllplocbciepaa.Cod.Seven
