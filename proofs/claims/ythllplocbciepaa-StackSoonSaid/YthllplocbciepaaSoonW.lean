/- Layer 8, StackSoon: the walk. -/
import Derived.Test.YthllplocbciepaaSoon8
import Derived.Test.YthllplocbciepaaBackW
namespace Go.Proofs.Ythllplocbciepaa.Kod.Eight
open Go.RowKit Go.Proofs.Ythllplocbciepaa Go.Proofs.Ythllplocbciepaa.Cell Go.Proofs.Ythllplocbciepaa.Wd
set_option linter.unusedVariables false
set_option linter.unusedSimpArgs false

/-- What was handed in is too much, or nothing. -/
inductive Far (n n' : Nat) : Prop
  | many (h : (5 : Int) < (n : Int)) : Far n n'
  | none (h : n = 0) : Far n n'
  | picks (h1 : (n : Int) ≤ 5) (h2 : 1 ≤ (n : Int)) (h : (300 : Int) < (n' : Int)) : Far n n'
set_option maxRecDepth 100000 in
set_option maxHeartbeats 400000 in
theorem soon_far (N who : Int) (A A' : Option Addr) (n c n' c' : Nat) (hnb : (n : Int) ≤ 9223372036854775807) (hnb' : (n' : Int) ≤ 9223372036854775807) (h : Far n n') (w : World) :
    Calls Try.prog 11 #[.int .u8 N, .slice A n c, .slice A' n' c', .int .u8 who] w fun e w' => e = .returned (.bool true) ∧ Made w w' := by
  rcases h with h | h | ⟨h1, h2, h⟩
  · go_enter Try.func11, Try.ntmps11
    go_wp2_with fail
    refine (speaks_c _).mono ?_
    rintro e w0 ⟨rfl, hm0⟩
    have HM0 := Lib.hid hm0
    clear hm0
    go_wp2_with fail
    refine (speaks_c _).mono ?_
    rintro e w1 ⟨rfl, hm1⟩
    have HM1 := Lib.hid (Made.trans HM0.out hm1)
    clear hm1
    go_wp2_with fail
    go_ret
    exact ⟨rfl, HM1.out⟩
  · subst h
    go_enter Try.func11, Try.ntmps11
    go_wp2_with fail
    refine (speaks_c _).mono ?_
    rintro e w0 ⟨rfl, hm0⟩
    have HM0 := Lib.hid hm0
    clear hm0
    go_wp2_with fail
    refine (speaks_c _).mono ?_
    rintro e w1 ⟨rfl, hm1⟩
    have HM1 := Lib.hid (Made.trans HM0.out hm1)
    clear hm1
    go_wp2_with fail
    go_ret
    exact ⟨rfl, HM1.out⟩
  · have hne : ((n : Int) == 0) = false := by rw [beq_eq_false_iff_ne]; omega
    go_enter Try.func11, Try.ntmps11
    go_wp2_with fail
    refine (speaks_c _).mono ?_
    rintro e w0 ⟨rfl, hm0⟩
    have HM0 := Lib.hid hm0
    clear hm0
    go_wp2_with fail
    refine (speaks_c _).mono ?_
    rintro e w1 ⟨rfl, hm1⟩
    have HM1 := Lib.hid (Made.trans HM0.out hm1)
    clear hm1
    go_wp2_with fail
    go_ret
    exact ⟨rfl, HM1.out⟩
theorem tasks_infos : (Try.prog.info? 57).map (fun i => (i.zero, i.size, i.bytes)) = some (some (.pointer none), 1, 8) := by kernel_rfl
set_option maxRecDepth 100000 in
set_option maxHeartbeats 2000000 in
theorem soon_near (N who n n' c c' : Nat) (A A' : Option Addr) (us : List Value) (ls : List (List Bool)) (ps : List Int) (hN256 : N < 256) (hw256 : who < 256) (hn1 : 1 ≤ n) (hn5 : n ≤ 5) (hn : Hid (n = ls.length)) (hus : Hid (us.length = ls.length)) (hn' : Hid (n' = ps.length)) (hps : n' ≤ 300) (w : World) (hl : Hid (RdV w w.heap.size A us)) (hsl : Hid (∀ (i : Nat) (u : Value) (l : List Bool), us[i]? = some u → ls[i]? = some l → SlB w u l)) (hp : Hid (RdV w w.heap.size A' (ps.map (.int .i64)))) :
    Calls Try.prog 11 #[.int .u8 (N : Int), .slice A n c, .slice A' n' c', .int .u8 (who : Int)] w fun e w' => e = .returned (.bool true) ∧ Made w w' := by
  have HFR : Hid (∀ (n : Nat), n ≤ 100 → ∀ w, Calls Try.prog 50 #[.int .i64 (n : Int)] w fun e w' => ∃ a b, e = .returned (.tuple #[stk8 a, .bool true]) ∧ Arena w' a b 0 (List.replicate (1 + n) 0) ∧ w.heap.size ≤ a ∧ w.heap.size ≤ b ∧ Made w w') := fun n hn w => fresh_c n hn w
  have e1 : IntKind.i64.wrap (N : Int) = (N : Int) := by rw [IntKind.wrap_i64]; omega
  have e2 : (N : Int).tmod 12 = ((N % 12 : Nat) : Int) := by rw [Int.tmod_eq_emod_of_nonneg (by omega)]; omega
  have E1 := Lib.hid e1
  have E2 := Lib.hid e2
  clear e1 e2
  have hne : ((n : Int) == 0) = false := by rw [beq_eq_false_iff_ne]; omega
  have i5 : (n : Int) ≤ 5 := by omega
  have i300 : (n' : Int) ≤ 300 := by omega
  go_enter Try.func11, Try.ntmps11
  go_wp2_with fail
  refine (speaks_c _).mono ?_
  rintro e w1 ⟨rfl, hm1⟩
  have HM1 := Lib.hid hm1
  clear hm1
  go_wp2_with fail
  obtain ⟨k, hk, hk1, hk12⟩ : ∃ k : Nat, 1 + (N : Int) % 12 = (k : Int) ∧ 1 ≤ k ∧ k ≤ 12 := ⟨1 + N % 12, by omega, by omega, by omega⟩
  rw [hk]
  refine (HFR.out k (by omega) _).mono ?_
  rintro e w2 ⟨a, b, rfl, hA, hwa, hwb, hm2⟩
  have HA := Lib.hid hA
  have HM2 := Lib.hid (Made.trans HM1.out hm2)
  have hwa' := Nat.le_trans HM1.out.size hwa
  have hwb' := Nat.le_trans HM1.out.size hwb
  clear hA hm2 HFR hwa hwb hk E1 E2 HM1
  obtain ⟨it, ht0, ht1⟩ := Option.map_eq_some_iff.1 tasks_infos
  simp only [Prod.mk.injEq] at ht1
  obtain ⟨ht1, ht2, ht3⟩ := ht1
  have HI := Lib.hid (And.intro ht0 (And.intro ht1 (And.intro ht2 ht3)))
  clear ht0 ht1 ht2 ht3
  go_wp2_with fail
  have HS0 := Lib.hid (Soon.begin (a := a) (b := b) (B := w.heap.size) (g := w2.heap.size) (k := k) (w0 := w) (w := w2) (wr := w2.alloc (.cells #[.pointer (some ⟨a, 0, none⟩), .int .i64 0, .func (.func 76) #[] #[]] 81)) (t := 81) (by omega) HA.out ((Made.refl w2).alloc (Nat.le_refl _) _) HM2.out ⟨hwa', hwb', HM2.out.size⟩ (Nat.le_refl _) (heap_alloc_new _ _))
  go_loopw [12, 48] (fun p iv wr => ∃ (i : Nat) (A2 : Option Addr) (c2 : Nat), p = .slice A2 i c2 ∧ iv = .int .i64 (i : Int) ∧ i ≤ n ∧ Hid (Soon a b w.heap.size w2.heap.size k i (.slice A2 i c2) w wr)) (fun _ iv _ => (n - intOf iv).toNat)
  case atStart => exact ⟨0, _, _, rfl, rfl, by omega, HS0⟩
  case round =>
    obtain ⟨i, A2, c2, rfl, rfl, hi, HS⟩ := hrel
    by_cases hlt : i < n
    · obtain ⟨u, hu⟩ : ∃ u, us[i]? = some u := ⟨_, List.getElem?_eq_getElem (by have := hn.out; have := hus.out; omega)⟩
      obtain ⟨l, hli⟩ : ∃ l, ls[i]? = some l := ⟨_, List.getElem?_eq_getElem (by have := hn.out; omega)⟩
      obtain ⟨A3, c3, rfl, hc3, hm3, hrd3⟩ := hsl.out i u l hu hli
      obtain ⟨d, rfl, hdb, hdc⟩ := hl.out.later HS.out.bel i _ hu
      have HL3 := Lib.hid hrd3
      unfold maxLen at hm3
      obtain ⟨N3, hN3⟩ : ∃ N3, N3 = l.length := ⟨_, rfl⟩
      have HN3 := Lib.hid hN3
      rw [← hN3] at hdc hc3
      obtain ⟨s0, s1, s2⟩ := HS.out.stk
      have i0 : (0 : Int) ≤ (i : Int) := by omega
      have i1 : (i : Int) < (n : Int) := by omega
      have j0 : (0 : Int) ≤ (N3 : Int) := by omega
      clear hN3 hu hli hrd3 HS0 hdb
      by_cases h12 : 12 < N3
      · have j1 : (12 : Int) < (N3 : Int) := by omega
        have HF := Lib.hid HS.out.bel
        go_wp2_with fail
        go_ret
        exact ⟨rfl, HF.out⟩
      · have j1 : (N3 : Int) ≤ 12 := by omega
        have hlt2 : w2.heap.size < wr.heap.size := Go.block_lt_of_cell s0
        by_cases hik : i < k
        · have j2 : (i : Int) < (k : Int) := by omega
          have HGO := Lib.hid (HS.out.go (x := ⟨[(i : Int)], none, false, false, false⟩) (hv := .slice (some ⟨wr.heap.size + 1, 0, none⟩) 1 1) (w' := (wr.alloc (.cells #[.slice (some ⟨wr.heap.size + 1, 0, none⟩) 1 1, .pointer none, .bool false, .bool false, .bool false] 88)).alloc (.cells #[.int .i64 (i : Int)] 3))
            (((Made.refl wr).alloc (Nat.le_refl _) _).alloc (by simp only [World.size_alloc]; omega) _) (by rw [heap_alloc_old _ _ (by simp only [World.size_alloc]; omega)]; exact heap_alloc_new _ _)
            (by
              have h := World.ownsRow_lit (e := 3) (base := wr.heap.size) (size := 1) (wr.alloc (.cells #[.slice (some ⟨wr.heap.size + 1, 0, none⟩) 1 1, .pointer none, .bool false, .bool false, .bool false] 88)) #[.int .i64 (i : Int)] 1 (by simp only [World.size_alloc]; omega) (by unfold maxLen; omega) (by simp)
              simp only [World.size_alloc] at h
              exact h)
            ⟨by simp; omega, rfl, by simp; have := HN3.out; omega⟩ HN3 hc3 hm3 HL3.out (by have := HN3.out; omega))
          go_wp2_with fail
          refine HGO.out.mono ?_
          rintro e w3 ⟨v, rfl, hv, HNEW⟩
          clear HGO s0 s1 s2 hlt2
          go_wp2_with fail
          refine HNEW.out.mono ?_
          rintro e w4 ⟨tb, ps4, rfl, hB4, HOW, HNX⟩
          clear HNEW
          go_wp2_with (at_builtin; (refine wpList_append_lies _ rfl (.tmp 66) (.tmp 72) 55 rfl w.heap.size 57 it (.pointer none) 1 8 Try.underlying55 HI.out.1 HI.out.2.1 HI.out.2.2.1 HI.out.2.2.2 rfl (by omega) (.slice A2 i c2) i ps4 (by simp [Act.eval, Act.put]) (World.ownsRow.alloc HOW.out _) ⟨w4.heap.size, 0, none⟩ 1 1 [.pointer (some ⟨tb, 0, none⟩)] (by simp [Act.eval, Act.put]) rfl (World.news_of_block (cs := #[.pointer (some ⟨tb, 0, none⟩)]) (t := 57) (fr := (0, 0)) (heap_alloc_new w4 _)) (by simp [Value.oneCell']) (by omega) (by unfold maxLen; omega) (by omega) (by simp only [World.size_alloc]; omega) (w4.heap.size + 1) (by simp only [World.size_alloc]) ?_; intro g9 c9 w9 hown hgrow hat _; have HOW9 := Lib.hid hown; have HGR9 := Lib.hid hgrow; have HAT9 := Lib.hid hat; clear hown hgrow hat))
          have HH9 := Lib.hid (HNX.out _ _ _ HOW9.out HGR9.out (HAT9.out.imp (fun h => h) (fun h j hj => by
            obtain rfl : g9 = j := by simpa [Value.ownBlock] using hj
            omega)))
          go_roundw
          case rel => exact ⟨i + 1, _, _, rfl, by go_num, by omega, HH9⟩
          case measure => simp [intOf]; omega
        · have j2 : (k : Int) ≤ (i : Int) := by omega
          have HGO := Lib.hid (HS.out.go (x := ⟨[], none, false, false, false⟩) (hv := .slice none 0 0) (w' := wr.alloc (.cells #[.slice none 0 0, .pointer none, .bool false, .bool false, .bool false] 88))
            ((Made.refl wr).alloc (Nat.le_refl _) _) (heap_alloc_new _ _) (World.ownsRow_nil _ _ _ _) ⟨by simp, rfl, by simp; have := HN3.out; omega⟩ HN3 hc3 hm3 HL3.out (by have := HN3.out; omega))
          go_wp2_with fail
          refine HGO.out.mono ?_
          rintro e w3 ⟨v, rfl, hv, HNEW⟩
          clear HGO s0 s1 s2 hlt2
          go_wp2_with fail
          refine HNEW.out.mono ?_
          rintro e w4 ⟨tb, ps4, rfl, hB4, HOW, HNX⟩
          clear HNEW
          go_wp2_with (at_builtin; (refine wpList_append_lies _ rfl (.tmp 66) (.tmp 72) 55 rfl w.heap.size 57 it (.pointer none) 1 8 Try.underlying55 HI.out.1 HI.out.2.1 HI.out.2.2.1 HI.out.2.2.2 rfl (by omega) (.slice A2 i c2) i ps4 (by simp [Act.eval, Act.put]) (World.ownsRow.alloc HOW.out _) ⟨w4.heap.size, 0, none⟩ 1 1 [.pointer (some ⟨tb, 0, none⟩)] (by simp [Act.eval, Act.put]) rfl (World.news_of_block (cs := #[.pointer (some ⟨tb, 0, none⟩)]) (t := 57) (fr := (0, 0)) (heap_alloc_new w4 _)) (by simp [Value.oneCell']) (by omega) (by unfold maxLen; omega) (by omega) (by simp only [World.size_alloc]; omega) (w4.heap.size + 1) (by simp only [World.size_alloc]) ?_; intro g9 c9 w9 hown hgrow hat _; have HOW9 := Lib.hid hown; have HGR9 := Lib.hid hgrow; have HAT9 := Lib.hid hat; clear hown hgrow hat))
          have HH9 := Lib.hid (HNX.out _ _ _ HOW9.out HGR9.out (HAT9.out.imp (fun h => h) (fun h j hj => by
            obtain rfl : g9 = j := by simpa [Value.ownBlock] using hj
            omega)))
          go_roundw
          case rel => exact ⟨i + 1, _, _, rfl, by go_num, by omega, HH9⟩
          case measure => simp [intOf]; omega
    · obtain rfl : n = i := by omega
      have hwho : who % n < n := Nat.mod_lt _ (by omega)
      obtain ⟨-, HR⟩ := HS.out.run (N' := n') (c' := c') (who := who % n) (by have := hn'.out; omega) hn' hn5 hp.out hwho
      clear hwho HS HS0
      have w0 : (0 : Int) ≤ (who : Int) := by omega
      have w256 : (who : Int) < 256 := by omega
      have n0 : (0 : Int) < (n : Int) := by omega
      have q0 : (0 : Int) ≤ (who : Int) % (n : Int) := by omega
      have q1 : (who : Int) % (n : Int) < (n : Int) := Int.emod_lt_of_pos _ n0
      go_wp2_with fail
      refine HR.out.mono ?_
      rintro e w3 ⟨z, rfl, g1, t, rfl, ct, HFI⟩
      clear HR
      go_wp2_with fail
      refine HFI.out.mono ?_
      rintro e w4 ⟨rfl, hbel⟩
      have HF := Lib.hid hbel
      clear hbel
      go_wp2_with fail
      go_ret
      exact ⟨rfl, HF.out⟩
theorem soon (a0 : Int) (v : Value) (ls : List (List Bool)) (u : Value) (ps : List Int) (a3 : Int) (w : World) (h0 : (Lit.int .u8 a0).wf = true) (hv : SlBB w v ls) (hu : SlK .i64 w u ps) (_ : ∀ z ∈ ps, (Lit.int .i64 z).wf = true) (h3 : (Lit.int .u8 a3).wf = true) :
    Calls Try.prog 11 #[.int .u8 a0, v, u, .int .u8 a3] w fun e w' => e = .returned (.bool true) ∧ Made w w' := by
  obtain ⟨N, rfl, hN⟩ := u8_of h0
  obtain ⟨who, rfl, hwho⟩ := u8_of h3
  obtain ⟨A, c, us, rfl, h1, h2, h4, h5, h6⟩ := hv
  obtain ⟨A', c', rfl, g1, g2, g3⟩ := slk_rdv hu
  unfold maxLen at h2 g2
  by_cases hm : 5 < ls.length
  · exact soon_far _ _ A A' _ _ _ _ (by omega) (by omega) (.many (by omega)) w
  · by_cases hz : ls.length = 0
    · exact soon_far _ _ A A' _ _ _ _ (by omega) (by omega) (.none hz) w
    · by_cases hp : 300 < ps.length
      · exact soon_far _ _ A A' _ _ _ _ (by omega) (by omega) (.picks (by omega) (by omega) (by omega)) w
      · exact soon_near N who _ _ _ _ A A' us ls ps hN hwho (by omega) (by omega) (Lib.hid rfl) (Lib.hid h4) (Lib.hid rfl) (by omega) w (Lib.hid h5) (Lib.hid h6) (Lib.hid g3)
end Go.Proofs.Ythllplocbciepaa.Kod.Eight
