/- Layer 8, StackMany: the walk. -/
import Derived.Test.YthllplocbciepaaManyA
import Derived.Deep.DeepCutAuto
namespace Go.Proofs.Ythllplocbciepaa.Kod.Eight
open Go.RowKit Go.Proofs.Ythllplocbciepaa Go.Proofs.Ythllplocbciepaa.Cell Go.Proofs.Ythllplocbciepaa.Wd
set_option linter.unusedVariables false
set_option linter.unusedSimpArgs false

theorem elem_boolm : Elem Try.prog 84 4 (.bool false) 1 := ⟨Try.underlying84, by kernel_rfl, rfl⟩
theorem elem_taskm : Elem Try.prog 55 57 (.pointer none) 8 := ⟨Try.underlying55, by kernel_rfl, rfl⟩
theorem elem_workm : Elem Try.prog 97 85 (.pointer none) 8 := ⟨Try.underlying97, by kernel_rfl, rfl⟩
/-- What was handed in is too much. -/
inductive Farm (n n' : Nat) : Prop
  | many (h : (5 : Int) < (n : Int)) : Farm n n'
  | picks (h1 : (n : Int) ≤ 5) (h : (300 : Int) < (n' : Int)) : Farm n n'
set_option maxRecDepth 100000 in
set_option maxHeartbeats 400000 in
theorem many_far (N : Int) (A A' : Option Addr) (n c n' c' : Nat) (hnb : (n : Int) ≤ 9223372036854775807) (hnb' : (n' : Int) ≤ 9223372036854775807) (h : Farm n n') (w : World) :
    Calls Try.prog 14 #[.int .u8 N, .slice A n c, .slice A' n' c'] w fun e w' => e = .returned (.bool true) ∧ Made w w' := by
  rcases h with h | ⟨h1, h⟩
  all_goals
    go_enter Try.func14, Try.ntmps14
    go_wp2_with fail
    refine (speaks_c _).mono ?_
    rintro e w0 ⟨rfl, hm0⟩
    have HM0 := Lib.hid hm0
    clear hm0
    go_wp2_with fail
    refine (speaks_c _).mono ?_
    rintro e w1 ⟨rfl, hm1⟩
    have HM1 := Lib.hid (Made.trans HM0.out hm1)
    clear hm1
    go_wp2_with fail
    go_ret
    exact ⟨rfl, HM1.out⟩
set_option maxRecDepth 100000 in
set_option maxHeartbeats 4000000 in
theorem many_near (N n n' c c' : Nat) (A A' : Option Addr) (us : List Value) (ls : List (List Bool)) (ps : List Int) (hN256 : N < 256) (hn5 : n ≤ 5) (hn : Hid (n = ls.length)) (hus : Hid (us.length = ls.length)) (hn' : Hid (n' = ps.length)) (hps : n' ≤ 300) (w : World) (hl : Hid (RdV w w.heap.size A us)) (hsl : Hid (∀ (i : Nat) (u : Value) (l : List Bool), us[i]? = some u → ls[i]? = some l → SlB w u l)) (hp : Hid (RdV w w.heap.size A' (ps.map (.int .i64)))) :
    Calls Try.prog 14 #[.int .u8 (N : Int), .slice A n c, .slice A' n' c'] w fun e w' => e = .returned (.bool true) ∧ Made w w' := by
  have HFR : Hid (∀ (n : Nat), n ≤ 100 → ∀ w, Calls Try.prog 50 #[.int .i64 (n : Int)] w fun e w' => ∃ a b, e = .returned (.tuple #[stk8 a, .bool true]) ∧ Arena w' a b 0 (List.replicate (1 + n) 0) ∧ w.heap.size ≤ a ∧ w.heap.size ≤ b ∧ Made w w') := fun n hn w => fresh_c n hn w
  have i5 : (n : Int) ≤ 5 := by omega
  have i300 : (n' : Int) ≤ 300 := by omega
  have n256 : (N : Int) < 256 := by omega
  have HE := Lib.hid elem_intb
  have HEB := Lib.hid elem_boolm
  have HET := Lib.hid elem_taskm
  have HEW := Lib.hid elem_workm
  go_enter Try.func14, Try.ntmps14
  go_wp2_with fail
  refine (speaks_c _).mono ?_
  rintro e w1 ⟨rfl, hm1⟩
  have HM1 := Lib.hid hm1
  clear hm1
  go_wp2_with fail
  go_loopw [42] (fun iv wr => ∃ (i : Nat), iv = .int .i64 (i : Int) ∧ i ≤ n ∧ Hid (∀ (j : Nat) (l : List Bool), j < i → ls[j]? = some l → l.length ≤ 12) ∧ Hid (Made w wr)) (fun iv _ => (n - intOf iv).toNat)
  case atStart => exact ⟨0, rfl, by omega, by show ∀ (j : Nat) (l : List Bool), _; intro j l hj; omega, HM1⟩
  case round =>
    obtain ⟨i, rfl, hi, HALL, HMD⟩ := hrel
    by_cases hlt : i < n
    · obtain ⟨u, hu⟩ : ∃ u, us[i]? = some u := ⟨_, List.getElem?_eq_getElem (by have := hn.out; have := hus.out; omega)⟩
      obtain ⟨l, hli⟩ : ∃ l, ls[i]? = some l := ⟨_, List.getElem?_eq_getElem (by have := hn.out; omega)⟩
      obtain ⟨A3, c3, rfl, hc3, hm3, hrd3⟩ := hsl.out i u l hu hli
      obtain ⟨d, rfl, hdb, hdc⟩ := hl.out.later HMD.out i _ hu
      obtain ⟨N3, hN3⟩ : ∃ N3, N3 = l.length := ⟨_, rfl⟩
      have HN3 := Lib.hid hN3
      have HLI := Lib.hid hli
      rw [← hN3] at hdc hc3
      have i0 : (0 : Int) ≤ (i : Int) := by omega
      have i1 : (i : Int) < (n : Int) := by omega
      have j0 : (0 : Int) ≤ (N3 : Int) := by omega
      clear hN3 hu hli hrd3 hdb hm3 hc3
      by_cases h12 : 12 < N3
      · have j1 : (12 : Int) < (N3 : Int) := by omega
        go_wp2_with fail
        go_ret
        exact ⟨rfl, HMD.out⟩
      · have j1 : (N3 : Int) ≤ 12 := by omega
        have HA2 : Hid (∀ (j : Nat) (l : List Bool), j < i + 1 → ls[j]? = some l → l.length ≤ 12) := by
          show ∀ (j : Nat) (l : List Bool), _
          intro j l2 hj hl2
          by_cases hji : j = i
          · subst hji
            have h1 := HLI.out.symm.trans hl2
            obtain rfl := Option.some.inj h1
            have := HN3.out
            omega
          · exact HALL.out j l2 (by omega) hl2
        go_wp2_with fail
        go_roundw
        case rel => exact ⟨i + 1, by go_num, by omega, HA2, HMD⟩
        case measure => simp [intOf]; omega
    · obtain rfl : n = i := by omega
      clear HM1
      obtain ⟨k, hk, hk12⟩ : ∃ k : Nat, (N : Int) % 13 = (k : Int) ∧ k ≤ 12 := ⟨N % 13, by omega, by omega⟩
      go_wp2_with fail
      rw [hk]
      refine (HFR.out k (by omega) _).mono ?_
      rintro e w2 ⟨a, b, rfl, hA, hwa, hwb, hm2⟩
      have HA := Lib.hid hA
      have HM2 := Lib.hid (Made.trans HMD.out hm2)
      have hwa' := Nat.le_trans HMD.out.size hwa
      have hwb' := Nat.le_trans HMD.out.size hwb
      clear hA hm2 HFR hwa hwb hk HMD
      go_wp2_with fail
      obtain ⟨WW, hWW⟩ : ∃ WW, WW = w2.alloc (.cells #[.pointer (some ⟨a, 0, none⟩), .int .i64 0, .func (.func 76) #[] #[]] 81) := ⟨_, rfl⟩
      have HWW := Lib.hid hWW
      have HH0 : Hid (H2 w2.heap.size WW ((w2.alloc (.cells #[.pointer (some ⟨a, 0, none⟩), .int .i64 0, .func (.func 76) #[] #[]] 81)).alloc (.cells #[.slice none 0 0, .pointer none, .bool false, .bool false, .bool false] 88)) 0 0 (.slice none 0 0) (.slice none 0 0)) := by
        refine ⟨?_, World.ownsRow_nil _ _ _ _⟩
        rw [← hWW]
        exact H1.start (by rw [hWW]; simp only [World.size_alloc])
      clear hWW
      go_loopw [13, 63] (fun pv iv wr => ∃ (t : Nat) (Ap : Option Addr) (cp : Nat) (hv : Value), pv = .slice Ap t cp ∧ iv = .int .i64 (t : Int) ∧ t ≤ k ∧ Hid (H2 w2.heap.size WW wr t t hv (.slice Ap t cp))) (fun _ iv _ => (k - intOf iv).toNat)
      case atStart => exact ⟨0, _, _, _, rfl, rfl, by omega, HH0⟩
      case round =>
        obtain ⟨t, Ap, cp, hv, rfl, rfl, ht, HL⟩ := hrel
        by_cases hlt2 : t < k
        · obtain ⟨Ah, ch, rfl, k0, hrd⟩ := HL.out.h1.read
          have i1 : (t : Int) < (k : Int) := by omega
          have HSZ := HL.out.h1.sz
          clear hrd
          go_upto_region 19 with (at_builtin; (refine wpList_app _ rfl (.tmp 70) (.tmp 72) 32 rfl (w2.heap.size + 1 + 1) 3 (.int .i64 0) 8 HE.out (.slice Ah t ch) t (upto t) (by simp [Act.eval, Act.put]) (World.ownsRow.alloc HL.out.h1.hr _) (some ⟨wr.heap.size, 0, none⟩) 1 1 [.int .i64 (t : Int)] (by simp [Act.eval, Act.put]) (Reads.row (cs := #[.int .i64 (t : Int)]) (heap_alloc_new wr _) rfl) (by simp [Value.oneCell']) (by unfold maxLen; omega) (by omega) (by simp only [World.size_alloc]; omega) ?_; intro A5 c5 w5 hown hgrow _; obtain ⟨HL5, f1, f2⟩ := HL.out.hand hown hgrow; have HH5 := Lib.hid HL5; clear HL5 hown hgrow))
          clear f1 f2 k0 HL
          generalize w5.setCell ⟨w2.heap.size + 1, 0, none⟩ (.slice A5 (t + 1) c5) = w6 at *
          have HS6 := HH5.out.h1.sz
          go_wp2_with (at_builtin; (refine wpList_app _ rfl (.tmp 76) (.tmp 77) 84 rfl (w2.heap.size + 1 + 1) 4 (.bool false) 1 HEB.out (.slice Ap t cp) t (List.replicate t (.bool false)) (by simp [Act.eval, Act.put]) (World.ownsRow.alloc HH5.out.pr _) (some ⟨w6.heap.size, 0, none⟩) 1 1 [.bool false] (by simp [Act.eval, Act.put]) (Reads.row (cs := #[.bool false]) (heap_alloc_new w6 _) rfl) (by simp [Value.oneCell']) (by unfold maxLen; omega) (by omega) (by simp only [World.size_alloc]; omega) ?_; intro A7 c7 w7 hown hgrow _; have HH7 := Lib.hid (HH5.out.put hown hgrow); clear hown hgrow))
          go_roundw
          case rel => exact ⟨t + 1, _, _, _, rfl, by go_num, by omega, HH7⟩
          case measure => simp [intOf]; omega
        · obtain rfl : t = k := by omega
          obtain ⟨⟨s0, s1, s2⟩, HCODE⟩ := lay_c (B := w.heap.size) (by omega) hk12 HA.out HM2.out ⟨hwa', hwb', HM2.out.size⟩ (by have := HL.out; rw [HWW.out] at this; exact this)
          have hne : ((t : Int) != (t : Int)) = false := by simp
          clear HL HH0
          go_wp2_with fail
          refine HCODE.out.mono ?_
          rintro e w3 ⟨v, rfl, hv2, HNEW⟩
          clear HCODE s0 s1 s2
          go_wp2_with fail
          refine HNEW.out.mono ?_
          rintro e w4 ⟨tb, rfl, HFIN⟩
          clear HNEW
          go_wp2_with fail
          refine HFIN.out.mono ?_
          rintro e w5 ⟨rfl, ⟨s0, s1, s2⟩, HLIST⟩
          clear HFIN
          go_wp2_with fail
          refine HLIST.out.mono ?_
          rintro e w6 ⟨A2, c2, rfl, HMID⟩
          clear HLIST s0 s1 s2
          go_wp2_with fail
          go_loopw [16, 17, 101] (fun tv wv iv wr => ∃ (i : Nat) (At : Option Addr) (ct : Nat) (Aw : Option Addr) (cw : Nat), tv = .slice At i ct ∧ wv = .slice Aw i cw ∧ iv = .int .i64 (i : Int) ∧ i ≤ n ∧ Hid (Mid a b w.heap.size w2.heap.size t i (.slice At i ct) (.slice Aw i cw) w wr)) (fun _ _ iv _ => (n - intOf iv).toNat)
          case atStart => exact ⟨0, _, _, _, _, rfl, rfl, rfl, by omega, HMID⟩
          case round =>
            obtain ⟨i, At, ct, Aw, cw, rfl, rfl, rfl, hi, HM⟩ := hrel
            by_cases hlt3 : i < n
            · obtain ⟨u, hu⟩ : ∃ u, us[i]? = some u := ⟨_, List.getElem?_eq_getElem (by have := hn.out; have := hus.out; omega)⟩
              obtain ⟨l, hli⟩ : ∃ l, ls[i]? = some l := ⟨_, List.getElem?_eq_getElem (by have := hn.out; omega)⟩
              obtain ⟨A3, c3, rfl, hc3, hm3, hrd3⟩ := hsl.out i u l hu hli
              obtain ⟨d, rfl, hdb, hdc⟩ := hl.out.later HM.out.bel i _ hu
              have hl12 := HALL.out i l hlt3 hli
              have HL3 := Lib.hid hrd3
              unfold maxLen at hm3
              obtain ⟨N3, hN3⟩ : ∃ N3, N3 = l.length := ⟨_, rfl⟩
              have HN3 := Lib.hid hN3
              have HL12 := Lib.hid hl12
              rw [← hN3] at hdc hc3
              obtain ⟨s0, s1, s2⟩ := HM.out.stk
              have i0 : (0 : Int) ≤ (i : Int) := by omega
              have i1 : (i : Int) < (n : Int) := by omega
              obtain ⟨wk, hwk⟩ : ∃ wk, wk = wr.alloc (.cells #[.slice none 0 0, .pointer none, .bool false, .bool false, .bool false] 88) := ⟨_, rfl⟩
              obtain ⟨hB1, pw, HOW1, HNX1⟩ := HM.out.work hwk
              rw [hwk] at hB1 HOW1 HNX1
              clear hwk hN3 hu hli hrd3 hdb hl12 HMID s0 s1 s2
              go_upto_region 31 with (at_builtin; (refine wpList_app _ rfl (.tmp 107) (.tmp 109) 97 rfl w.heap.size 85 (.pointer none) 8 HEW.out (.slice Aw i cw) i pw (by simp [Act.eval, Act.put]) (World.ownsRow.alloc HOW1.out _) (some ⟨wr.heap.size + 1, 0, none⟩) 1 1 [.pointer (some ⟨wr.heap.size, 0, none⟩)] (by simp [Act.eval, Act.put]) (by have h := Reads.row (cs := #[.pointer (some ⟨wr.heap.size, 0, none⟩)]) (heap_alloc_new (wr.alloc (.cells #[.slice none 0 0, .pointer none, .bool false, .bool false, .bool false] 88)) (.cells #[.pointer (some ⟨wr.heap.size, 0, none⟩)] 85)) rfl; simp only [World.size_alloc] at h; exact h) (by simp [Value.oneCell']) (by unfold maxLen; omega) (by omega) (by simp only [World.size_alloc] at hB1 ⊢; omega) ?_; intro A9 c9 w9 hown hgrow hat; have HH9 := Lib.hid (HNX1.out _ w9 _ hown hgrow hat); clear hown hgrow hat))
              obtain ⟨s0, s1, s2⟩ := HH9.out.stk
              have HGO := Lib.hid (HH9.out.go HN3 hc3 hm3 HL3.out HL12.out)
              clear HM HOW1 HNX1 hB1 hdc
              go_wp2_with fail
              refine HGO.out.mono ?_
              rintro e w10 ⟨v, rfl, hv2, HNEW⟩
              clear HGO HH9 s0 s1 s2
              go_wp2_with fail
              refine HNEW.out.mono ?_
              rintro e w11 ⟨tb2, pt, rfl, hB4, HOW2, HNX2⟩
              clear HNEW
              go_wp2_with (at_builtin; (refine wpList_app _ rfl (.tmp 111) (.tmp 117) 55 rfl w.heap.size 57 (.pointer none) 8 HET.out (.slice At i ct) i pt (by simp [Act.eval, Act.put]) (World.ownsRow.alloc HOW2.out _) (some ⟨w11.heap.size, 0, none⟩) 1 1 [.pointer (some ⟨tb2, 0, none⟩)] (by simp [Act.eval, Act.put]) (Reads.row (cs := #[.pointer (some ⟨tb2, 0, none⟩)]) (heap_alloc_new w11 _) rfl) (by simp [Value.oneCell']) (by unfold maxLen; omega) (by omega) (by simp only [World.size_alloc]; omega) ?_; intro A12 c12 w12 hown hgrow hat; have HH12 := Lib.hid (HNX2.out _ w12 _ hown hgrow hat); clear hown hgrow hat))
              go_roundw
              case rel => exact ⟨i + 1, _, _, _, _, rfl, rfl, by go_num, by omega, HH12⟩
              case measure => simp [intOf]; omega
            · obtain rfl : n = i := by omega
              have HB := Lib.hid HM.out.bel
              have hbs := HB.out.size
              have HRP : Hid (Reads wr A' n' (ps.map (.int .i64))) := by
                have h := Reads.rdv hp.out HB.out
                rw [List.length_map, ← hn'.out] at h
                exact h
              have HOW3 : Hid ((wr.alloc (.cells #[] 3)).ownsRow wr.heap.size 3 1 (.slice (some ⟨wr.heap.size, 0, none⟩) 0 0) 0 []) := World.ownsRow_made (e := 3) (base := wr.heap.size) (size := 1) wr #[] 0 (Nat.le_refl _) (by unfold maxLen; omega) rfl
              have HMX : Hid (∀ (w5 : World), (wr.alloc (.cells #[] 3)).grownBy w5 (some wr.heap.size) → Made wr w5) := by
                show ∀ (w5 : World), _
                intro w5 hg
                exact ((Made.refl wr).alloc (Nat.le_refl _) (.cells #[] 3)).grown hg (by simp only [World.size_alloc]; omega) (fun j ej => by
                  obtain rfl := Option.some.inj ej
                  exact Nat.le_refl _)
              have HZ0 : Hid (∀ (w5 : World) (A5 : Option Addr) (c5 : Nat) (vs : List Value), w5.ownsRow wr.heap.size 3 1 (.slice A5 (0 + n') c5) (0 + n') ([] ++ vs) → w5.ownsRow wr.heap.size 3 1 (.slice A5 n' c5) n' vs) := by
                show ∀ (w5 : World) (A5 : Option Addr) (c5 : Nat) (vs : List Value), _
                intro w5 A5 c5 vs h
                rw [Nat.zero_add, List.nil_append] at h
                exact h
              go_upto_region 33 with fail
              go_wp2_with (at_builtin; (refine wpList_app _ rfl (.tmp 120) (.tmp 121) 32 rfl wr.heap.size 3 (.int .i64 0) 8 HE.out (.slice (some ⟨wr.heap.size, 0, none⟩) 0 0) 0 [] (by simp [Act.eval, Act.put]) HOW3.out A' n' c' (ps.map (Value.int .i64)) (by simp [Act.eval, Act.put]) (reads_later HRP.out) (ints_oneb ps) (by unfold maxLen; omega) (by omega) (by simp only [World.size_alloc]; omega) ?_; intro A5 c5 w5 hown hgrow hat; have HO5 := Lib.hid (HZ0.out w5 A5 c5 _ hown); have HM5 := Lib.hid (HMX.out w5 hgrow); clear hown hgrow hat))
              refine (ends_c n (by omega) _).mono ?_
              rintro e w6 ⟨A6, c6, rfl, hrow6, hm6⟩
              have HRE := Lib.hid (reads_own hrow6)
              have HO6 : Hid (w6.ownsRow wr.heap.size 3 1 (.slice A5 n' c5) n' (ps.map (Value.int .i64))) := by
                show World.ownsRow _ _ _ _ _ _ _
                exact rowb_later HO5.out fun q hq => hm6.block q (HO5.out.lt q hq).2
              have HM6 := Lib.hid (Made.trans HM5.out hm6)
              have hsz6 := HM6.out.size
              clear hrow6 hm6 HO5 HM5 HRP HOW3 HMX HZ0
              have hmn : n' + 78 * n ≤ 690 := by omega
              go_wp2_with (at_builtin; (refine wpList_app _ rfl (.tmp 122) (.tmp 125) 32 rfl wr.heap.size 3 (.int .i64 0) 8 HE.out (.slice A5 n' c5) n' (ps.map (Value.int .i64)) (by simp [Act.eval, Act.put]) HO6.out A6 (78 * n) c6 ((endl n).map (Value.int .i64)) (by simp [Act.eval, Act.put]) HRE.out (ints_oneb _) (by unfold maxLen; omega) (by omega) hsz6 ?_; intro A8 c8 w8 hown hgrow hat; have HO8 := Lib.hid hown; have HM8 := Lib.hid (Below.grown HM6.out hgrow hsz6 (fun j ej => (HO6.out.lt j ej).1)); clear hown hgrow hat))
              have HPK : Hid (Pk a b w.heap.size w2.heap.size t n ps 0 At Aw A8 w w8) := by
                have h := HO8.out
                rw [← List.map_append] at h
                exact HM.out.picks HM8.out h
              obtain ⟨M, hM⟩ : ∃ M, M = n' + 78 * n := ⟨_, rfl⟩
              have hMI : (n' : Int) + 78 * (n : Int) = (M : Int) := by omega
              rw [← hM, hMI]
              clear hMI
              have hM690 : (M : Int) ≤ 690 := by omega
              have HMM := Lib.hid hM
              have HLN : Hid ((ps ++ endl n).length = M) := by show _ = _; rw [List.length_append, endl_len, hM, ← hn'.out]
              clear hM HO8 HM8 HO6 HM6 HRE HM hsz6 hmn hbs
              go_loopw [128] (fun rv wr => ∃ (r : Nat), rv = .int .i64 (r : Int) ∧ r ≤ M ∧ Hid (Pk a b w.heap.size w2.heap.size t n ps r At Aw A8 w wr)) (fun rv _ => (M - intOf rv).toNat)
              case atStart => exact ⟨0, rfl, by omega, HPK⟩
              case round =>
                obtain ⟨r, rfl, hr, HK⟩ := hrel
                by_cases hlt4 : r < M
                · obtain ⟨p, hpr⟩ : ∃ p, (ps ++ endl n)[r]? = some p := ⟨_, List.getElem?_eq_getElem (by have := HLN.out; omega)⟩
                  obtain ⟨d8, rfl, hd8⟩ := HK.out.at hpr
                  obtain ⟨s0, s1, s2⟩ := HK.out.stk
                  have HGO := HK.out.go (N := n) (c := cw) (N2 := n) (c2 := ct) hk12 hn5 (by have := hn'.out; omega) hpr (Lib.hid rfl) (Lib.hid rfl)
                  have r0 : (0 : Int) ≤ (r : Int) := by omega
                  have r1 : (r : Int) < (M : Int) := by omega
                  clear hpr HK HPK
                  go_wp2_with fail
                  refine HGO.out.mono ?_
                  rintro e w9 ⟨rfl, ⟨s0, s1, s2⟩, q, q0, q1, HCT, HRUN⟩
                  clear HGO
                  go_wp2_with fail
                  refine HCT.out.mono ?_
                  rintro e w9' ⟨rfl, rfl⟩
                  clear HCT
                  go_wp2_with fail
                  refine HRUN.out.mono ?_
                  rintro e w10 ⟨⟨z, rfl⟩, ⟨t0, t1, t2⟩, q2, p0, p1, HCT2, HBR⟩
                  clear HRUN s0 s1 s2
                  have hgt : decide (q + 1 < q2) = false := by simp; omega
                  go_wp2_with fail
                  refine HCT2.out.mono ?_
                  rintro e w10' ⟨rfl, rfl⟩
                  clear HCT2
                  go_wp2_with fail
                  refine HBR.out.mono ?_
                  rintro e w11 ⟨rfl, HK2⟩
                  clear HBR t0 t1 t2
                  go_wp2_with fail
                  go_roundw
                  case rel => exact ⟨r + 1, by go_num, by omega, HK2⟩
                  case measure => simp [intOf]; omega
                · obtain rfl : r = M := by omega
                  have HF0 := Lib.hid (HK.out.fin (by have := hn'.out; omega) hn5 (by have := HMM.out; have := hn'.out; omega))
                  clear HK HPK
                  go_wp2_with fail
                  go_loopw [24, 154] (fun hv iv wr => ∃ (i : Nat) (Ah : Option Addr) (nh ch : Nat) (H : List Int), hv = .slice Ah nh ch ∧ iv = .int .i64 (i : Int) ∧ i ≤ n ∧ Hid (nh = H.length) ∧ Hid (Fin a b w.heap.size w2.heap.size t n At Aw i (.slice Ah nh ch) H w wr)) (fun _ iv _ => (n - intOf iv).toNat)
                  case atStart => exact ⟨0, _, _, _, [], rfl, rfl, by omega, Lib.hid rfl, HF0⟩
                  case round =>
                    obtain ⟨i, Ah, nh, ch, H, rfl, rfl, hi, HNH, HF⟩ := hrel
                    by_cases hlt5 : i < n
                    · obtain ⟨d1, d2, tk, gi, A9, c9, hs, rfl, rfl, k1, k2, k3, k4, hB, hbd, HEN, HRW, Hs, HRS, HNX⟩ := HF.out.at hk12 hlt5
                      have i0 : (0 : Int) ≤ (i : Int) := by omega
                      have i1 : (i : Int) < (n : Int) := by omega
                      rw [← HNH.out] at HRW HNX hbd
                      clear HF HF0
                      go_wp2_with fail
                      refine HEN.out.mono ?_
                      rintro e w9 ⟨rfl, rfl⟩
                      clear HEN
                      go_wp2_with (at_builtin; (refine wpList_app _ rfl (.tmp 171) (.tmp 178) 32 rfl w.heap.size 3 (.int .i64 0) 8 HE.out (.slice Ah nh ch) nh (H.map (Value.int .i64)) (by simp [Act.eval, Act.put]) HRW.out A9 hs c9 (Hs.map (Value.int .i64)) (by simp [Act.eval, Act.put]) HRS.out (ints_oneb _) (by unfold maxLen; omega) (by omega) hB ?_; intro A10 c10 w10 hown hgrow hat; obtain ⟨hl10, hf10⟩ := HNX.out w10 _ hown hgrow hat; have HL10 := Lib.hid hl10.symm; have HF10 := Lib.hid hf10; clear hown hgrow hat hl10 hf10))
                      go_roundw
                      case rel => exact ⟨i + 1, _, _, _, _, rfl, by go_num, by omega, HL10, HF10⟩
                      case measure => simp [intOf]; omega
                    · obtain rfl : n = i := by omega
                      obtain ⟨⟨s0, s1, s2⟩, HLS⟩ := HF.out.ends hk12
                      clear HF HF0
                      go_wp2_with fail
                      refine HLS.out.mono ?_
                      rintro e w11 ⟨A11, n11, c11, rfl, HEA⟩
                      clear HLS s0 s1 s2
                      go_wp2_with fail
                      refine HEA.out.mono ?_
                      rintro e w12 ⟨rfl, hbel⟩
                      have HFE := Lib.hid hbel
                      clear hbel
                      go_wp2_with fail
                      go_ret
                      exact ⟨rfl, HFE.out⟩
theorem many (a0 : Int) (v : Value) (ls : List (List Bool)) (u : Value) (ps : List Int) (w : World) (h0 : (Lit.int .u8 a0).wf = true) (hv : SlBB w v ls) (hu : SlK .i64 w u ps) (_ : ∀ z ∈ ps, (Lit.int .i64 z).wf = true) :
    Calls Try.prog 14 #[.int .u8 a0, v, u] w fun e w' => e = .returned (.bool true) ∧ Made w w' := by
  obtain ⟨N, rfl, hN⟩ := u8_of h0
  obtain ⟨A, c, us, rfl, h1, h2, h4, h5, h6⟩ := hv
  obtain ⟨A', c', rfl, g1, g2, g3⟩ := slk_rdv hu
  unfold maxLen at h2 g2
  by_cases hm : 5 < ls.length
  · exact many_far _ A A' _ _ _ _ (by omega) (by omega) (.many (by omega)) w
  · by_cases hp : 300 < ps.length
    · exact many_far _ A A' _ _ _ _ (by omega) (by omega) (.picks (by omega) (by omega)) w
    · exact many_near N _ _ _ _ A A' us ls ps hN (by omega) (Lib.hid rfl) (Lib.hid h4) (Lib.hid rfl) (by omega) w (Lib.hid h5) (Lib.hid h6) (Lib.hid g3)
end Go.Proofs.Ythllplocbciepaa.Kod.Eight
