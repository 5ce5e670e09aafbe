/- Package knelllaw10, walked: WheelStays. -/
import Derived.Test.YtndpkonihcebeaaRst
import Derived.Test.YtndpkonihcebeaaOpenS
namespace Go.Proofs.Ytndpkonihcebeaa.Whl
open Go.RowKit Go.Proofs.Ytndpkonihcebeaa Go.Proofs.Ytndpkonihcebeaa.Cell Go.Proofs.Ytndpkonihcebeaa.Seq Go.Proofs.Ytndpkonihcebeaa.Num Go.Proofs.Ytndpkonihcebeaa.SetN Go.Proofs.Ytndpkonihcebeaa.Dig Go.Proofs.Ytndpkonihcebeaa.Bits
set_option linter.unusedVariables false
set_option linter.unusedSimpArgs false
variable {a b bl bs L S B N G : Nat}

/-- Tickets were put, due then. -/
structure Puts (L S B : Nat) (now : Int) (ds : List Int) (chs : Nat → Nat → List Nat) : Prop where
  at_ : ∀ lv sl t, Val L S lv sl → t ∈ chs lv sl → ∃ d, ds[t]? = some d ∧ Placed now d L B S lv sl
  len : (listOf L S chs).length = ds.length
theorem Puts.empty (now : Int) : Puts L S B now [] (fun _ _ => []) := ⟨fun _ _ _ _ m => by simp at m, by rw [listOf_empty]; rfl⟩
theorem Puts.fresh {now : Int} {ds : List Int} {chs : Nat → Nat → List Nat} (h : Puts L S B now ds chs) : ∀ lv sl, Val L S lv sl → ds.length ∉ chs lv sl := fun lv sl hv m => by
  obtain ⟨d, e, _⟩ := h.at_ lv sl _ hv m
  have := (List.getElem?_eq_some_iff.1 e).1
  omega
theorem Puts.put {now d : Int} {ds : List Int} {chs : Nat → Nat → List Nat} (h : Puts L S B now ds chs) {lv sl : Nat} (hp : Placed now d L B S lv sl) (hv : Val L S lv sl) : Puts L S B now (ds ++ [d]) (insCh ds.length lv sl chs) := by
  refine ⟨fun lv' sl' t hv' m => ?_, by rw [listOf_ins hv, h.len, List.length_append]; rfl⟩
  have old : t ∈ chs lv' sl' → ∃ d', (ds ++ [d])[t]? = some d' ∧ Placed now d' L B S lv' sl' := fun m => by
    obtain ⟨d', e, hp'⟩ := h.at_ lv' sl' t hv' m
    exact ⟨d', by rw [List.getElem?_append_left (List.getElem?_eq_some_iff.1 e).1]; exact e, hp'⟩
  unfold insCh at m
  split at m
  · rename_i he
    obtain ⟨rfl, rfl⟩ := he
    rcases List.mem_cons.1 m with rfl | m
    · exact ⟨d, by rw [List.getElem?_append_right (Nat.le_refl _)]; simp, hp⟩
    · exact old m
  · exact old m
/-- The times of a row of numbers. -/
def dues (now : Int) (zs : List Int) : List Int := zs.map fun z => now + 1 + z / 16
theorem dues_len (now : Int) (zs : List Int) : (dues now zs).length = zs.length := List.length_map ..
theorem dues_take {now z : Int} {zs : List Int} {r : Nat} (h : zs[r]? = some z) : dues now (zs.take (r + 1)) = dues now (zs.take r) ++ [now + 1 + z / 16] := by
  unfold dues
  rw [List.take_add_one, h, List.map_append]; rfl
theorem slk_cell {k : IntKind} {w : World} {v : Value} {zs : List Int} (h : SlK k w v zs) : ∃ A cap, v = .slice A zs.length cap ∧ zs.length ≤ cap ∧ cap ≤ maxLen ∧ ∀ i (hi : i < zs.length), ∃ d, A = some d ∧ d.block < w.heap.size ∧ w.cell? (d.add i) = some (.int k zs[i]) := by
  rcases h with ⟨rfl, rfl⟩ | ⟨d, cap, rfl, h1, h2, h3⟩
  · exact ⟨none, 0, rfl, Nat.le_refl _, by unfold maxLen; omega, fun i hi => absurd hi (by simp)⟩
  · refine ⟨some d, cap, rfl, h1, h2, fun i hi => ⟨d, rfl, ?_, h3 i hi⟩⟩
    have := h3 i hi
    apply Nat.lt_of_not_le
    intro hc
    have e : w.heap[(d.add i).block]? = none := by
      rw [Array.getElem?_eq_none_iff]
      have : (d.add i).block = d.block := by unfold Addr.add; split <;> rfl
      omega
    unfold World.cell? at this
    simp [e] at this
theorem tc_at : ∀ {T : List (Nat × Nat × Nat)} {k : Nat} {x : Nat × Nat × Nat}, T[k]? = some x → (tc T)[k * 3]? = some (.int .i64 (x.1 : Int)) ∧ (tc T)[k * 3 + 1]? = some (.int .i64 (x.2.1 : Int)) ∧ (tc T)[k * 3 + 2]? = some (.int .i64 (x.2.2 : Int))
  | [], k, x, h => by simp at h
  | y :: T, 0, x, h => by
    simp only [List.getElem?_cons_zero, Option.some.injEq] at h
    subst h
    exact ⟨rfl, rfl, rfl⟩
  | y :: T, k + 1, x, h => by
    simp only [List.getElem?_cons_succ] at h
    have e : tc (y :: T) = [.int .i64 (y.1 : Int), .int .i64 (y.2.1 : Int), .int .i64 (y.2.2 : Int)] ++ tc T := rfl
    have ih := tc_at h
    rw [e, List.getElem?_append_right (by simp; omega), List.getElem?_append_right (by simp; omega), List.getElem?_append_right (by simp; omega)]
    simp only [List.length_cons, List.length_nil]
    rw [show (k + 1) * 3 - (0 + 1 + 1 + 1) = k * 3 by omega, show (k + 1) * 3 + 1 - (0 + 1 + 1 + 1) = k * 3 + 1 by omega, show (k + 1) * 3 + 2 - (0 + 1 + 1 + 1) = k * 3 + 2 by omega]
    exact ih
set_option maxRecDepth 100000 in
set_option maxHeartbeats 2000000 in
theorem stays_c (a0 a1 a2 : Int) (A : Option Addr) (cap : Nat) (zs : List Int) (a4 : Int) (w : World) (h0 : 0 ≤ a0 ∧ a0 ≤ 255) (h1 : 0 ≤ a1 ∧ a1 ≤ 255) (h2 : 0 ≤ a2 ∧ a2 ≤ 4294967295) (hcap : zs.length ≤ cap) (hmax : cap ≤ maxLen) (hcell : ∀ i (hi : i < zs.length), ∃ d, A = some d ∧ d.block < w.heap.size ∧ w.cell? (d.add i) = some (.int .u32 zs[i])) (hz : ∀ z ∈ zs, 0 ≤ z ∧ z ≤ 4294967295) (h4 : 0 ≤ a4 ∧ a4 ≤ 4294967295) :
    Calls Try.prog 11 #[.int .u8 a0, .int .u8 a1, .int .u32 a2, .slice A zs.length cap, .int .u32 a4] w fun e w' => e = .returned (.bool true) ∧ Made w w' := by
  have HC := Lib.hid hcell
  have HZ := Lib.hid hz
  have HN := Lib.hid (And.intro hcap hmax)
  clear hcell hz hcap hmax
  obtain ⟨n, hn⟩ : ∃ n, n = zs.length := ⟨_, rfl⟩
  rw [← hn]
  have HL := Lib.hid hn
  clear hn
  by_cases hbig : 20 < n
  · have i1 : (20 : Int) < (n : Int) := by omega
    go_enter Try.func11, Try.ntmps11
    go_wp2_with fail
    refine (speaks_c _).mono ?_
    rintro e w1 ⟨rfl, hm1⟩
    have HM1 := Lib.hid hm1
    clear hm1
    go_wp2_with fail
    refine (speaks_c _).mono ?_
    rintro e w2 ⟨rfl, hm2⟩
    have HM2 := Lib.hid hm2
    clear hm2
    go_wp2_with fail
    go_ret
    exact ⟨rfl, Made.trans HM1.out HM2.out⟩
  · have i1 : (n : Int) ≤ 20 := by omega
    go_enter Try.func11, Try.ntmps11
    go_wp2_with fail
    refine (speaks_c _).mono ?_
    rintro e w1 ⟨rfl, hm1⟩
    have HM1 := Lib.hid hm1
    clear hm1
    go_wp2_with fail
    obtain ⟨L, eL, hL1, hL5⟩ : ∃ L : Nat, 1 + a0 % 5 = (L : Int) ∧ 1 ≤ L ∧ L ≤ 5 := ⟨(1 + a0 % 5).toNat, by omega, by omega, by omega⟩
    obtain ⟨B, eB, hB1, hB4⟩ : ∃ B : Nat, 1 + a1 % 4 = (B : Int) ∧ 1 ≤ B ∧ B ≤ 4 := ⟨(1 + a1 % 4).toNat, by omega, by omega, by omega⟩
    rw [eL, eB]
    clear eL eB
    obtain ⟨S, hS, hS2, hS16⟩ : ∃ S : Nat, S = 2 ^ B ∧ 2 ≤ S ∧ S ≤ 16 := ⟨2 ^ B, rfl, Nat.pow_le_pow_right (n := 2) (i := 1) (by omega) hB1, Nat.pow_le_pow_right (n := 2) (j := 4) (by omega) hB4⟩
    have HS := Lib.hid hS
    clear hS
    refine (fresh_law L B S 20 hL1 (by omega) (by omega) hB1 HS.out hS2 (by omega) (by omega) w1).mono ?_
    rintro e w2 ⟨a, b, bl, bs, rfl, hw2, ha, hb, hm2⟩
    have ha' := Nat.le_trans HM1.out.size ha
    have hb' := Nat.le_trans HM1.out.size hb
    have HR := Lib.hid (Rest.start hw2 (Int.le_refl 0) ha' hb' (Made.trans HM1.out hm2) rfl)
    clear hw2 ha hb hm2 ha' hb'
    go_upto_region 8 with fail
    obtain ⟨nw, hnw, hn0, hn1⟩ : ∃ nw, a2 / 16 = nw ∧ 0 ≤ nw ∧ nw ≤ 268435455 := ⟨a2 / 16, rfl, by omega, by omega⟩
    rw [hnw]
    clear hnw
    have HP0 : Hid (Puts L S B nw (dues nw (zs.take 0)) (fun _ _ => [])) := Puts.empty nw
    generalize hgw : w2.alloc _ = w3 at HR ⊢
    clear hgw
    generalize w2.heap.size = G at HR ⊢
    go_wp2_with fail
    go_loopw [57] (fun i wr => ∃ (r : Nat) (c : Int) (xs : List Int) (chs : Nat → Nat → List Nat), i = .int .i64 (r : Int) ∧ r ≤ n ∧ c ≤ 5 * (r : Int) ∧ Hid (Rest a b bl bs L S B (1 + L * (1 + S) + 20) G w wr c xs chs) ∧ Hid (Puts L S B nw (dues nw (zs.take r)) chs)) (fun i _ => (n - intOf i).toNat)
    case atStart => exact ⟨0, 0, _, _, rfl, by omega, by omega, HR, HP0⟩
    case round =>
      obtain ⟨r, c, xs, chs, rfl, hr, hc, HRr, HPr⟩ := hrel
      by_cases hlt : r < n
      · have i2 : (r : Int) < (n : Int) := by omega
        have hrz : r < zs.length := by have := HL.out; omega
        obtain ⟨d, rfl, hdl, hdc⟩ := HC.out r hrz
        have hdc2 := (Below.cell HRr.out.bel (p := d.add r) (by have : (d.add r).block = d.block := by { unfold Addr.add; split <;> rfl }
                                                                omega)).trans hdc
        obtain ⟨z, ez, hz0, hz1⟩ : ∃ z, zs[r] = z ∧ 0 ≤ z ∧ z ≤ 4294967295 := ⟨_, rfl, HZ.out _ (List.getElem_mem hrz)⟩
        rw [ez] at hdc2
        have HZR : Hid (zs[r]? = some z) := by rw [List.getElem?_eq_getElem hrz, ez]; rfl
        obtain ⟨c0, c1, c2, c3, c4, c5, c6⟩ := HRr.out.cells
        clear hdc ez
        have hr20 : r < 20 := by omega
        obtain ⟨q, hq⟩ : ∃ q, z / 16 = q := ⟨_, rfl⟩
        have hq0 : 0 ≤ q := by omega
        have hq1 : q ≤ 268435455 := by omega
        have htm : tm nw < tm (nw + 1 + q) := by
          have e1 := tm_of (t := nw) (by omega) (by omega)
          have e2 := tm_of (t := nw + 1 + q) (by omega) (by omega)
          omega
        have hlen : (dues nw (zs.take r)).length = r := by rw [dues_len, List.length_take]; omega
        have HF : Hid (∀ lv sl, Val L S lv sl → r ∉ chs lv sl) := fun lv sl hv m => HPr.out.fresh lv sl hv (by rw [hlen]; exact m)
        obtain ⟨lv, sl, hp, hvv, hI⟩ := HRr.out.insert (now := nw) (due := nw + 1 + q) hr20 (by omega) HF.out htm (by omega)
        have HI := Lib.hid hI
        have HPN : Hid (Puts L S B nw (dues nw (zs.take (r + 1))) (insCh r lv sl chs)) := by
          have h := HPr.out.put (d := nw + 1 + q) hp hvv
          rw [hlen] at h
          have h2 := dues_take (now := nw) HZR.out
          rw [hq] at h2
          have h3 : dues nw (zs.take (r + 1)) = dues nw (zs.take r) ++ [nw + 1 + q] := h2
          show Puts L S B nw (dues nw (zs.take (r + 1))) (insCh r lv sl chs)
          rw [h3]; exact h
        have HQ := Lib.hid hq
        clear hI hp hvv htm hlen HF HZR hr20 hdl hq hrz
        go_wp2_with fail
        rw [HQ.out]
        refine HI.out.mono ?_
        rintro e w4 ⟨rfl, c', xs', hR4, hc', hP4⟩
        have HR4 := Lib.hid hR4
        clear hR4 hP4 HI
        clear c0 c1 c2 c3 c4 c5 c6 hdc2 HRr HPr HQ
        go_wp2_with fail
        go_roundw
        case rel => exact ⟨r + 1, c', xs', _, by go_num, by omega, by omega, HR4, HPN⟩
        case measure => simp [intOf]; omega
      · obtain rfl : r = n := by omega
        obtain ⟨q, hq, hq0, hq1⟩ : ∃ q, a4 / 64 = q ∧ 0 ≤ q ∧ q ≤ 67108863 := ⟨a4 / 64, rfl, by omega, by omega⟩
        have HQ := Lib.hid hq
        clear hq
        have hwst := HRr.out.whe.wst
        obtain ⟨T, hT⟩ : ∃ T, listOf L S chs = T := ⟨_, rfl⟩
        obtain ⟨g, hg⟩ : ∃ g, passG (crOf nw (nw + q) B) S L 0 chs = g := ⟨_, rfl⟩
        obtain ⟨T2, hT2⟩ : ∃ T2, listOf L S (passCh (crOf nw (nw + q) B) L 0 chs) = T2 := ⟨_, rfl⟩
        have hTl : T.length = r := by
          rw [← hT, HPr.out.len, dues_len, List.length_take]
          have := HL.out
          omega
        have hsum : T.length = g.length + T2.length := by rw [← hT, ← hg, ← hT2]; exact pass_len hwst.s1
        have hfil : Hid (T2 = T.filter fun x => !decide (x.1 ∈ g)) := by
          have := listOf_pass (cr := crOf nw (nw + q) B) hwst
          rw [hg, hT, hT2] at this
          exact this
        have HLI := Lib.hid (HRr.out.list (by rw [hT]; omega))
        rw [hT] at HLI
        obtain ⟨c0, c1, c2, c3, c4, c5, c6⟩ := HRr.out.cells
        have hlt3 := HRr.out.lt
        clear hwst HC HZ HPr HN
        go_wp2_with fail
        refine HLI.out.mono ?_
        rintro e w4 ⟨A4, cap4, rfl, hl4, hm4, ht4, hM4, hR4⟩
        have HR4 := Lib.hid hR4
        have HT4 := Lib.hid ht4
        have HM4 := Lib.hid hM4
        have hlt4 := HR4.out.lt
        have HPA := Lib.hid (HR4.out.pass (fr := nw) (to' := nw + q) (by omega) (by rw [hg]; omega))
        rw [hg] at HPA
        clear c0 c1 c2 c3 c4 c5 c6 hR4 ht4 hM4 HLI HRr
        obtain ⟨c0, c1, c2, c3, c4, c5, c6⟩ := HR4.out.cells
        go_wp2_with fail
        rw [HQ.out]
        refine HPA.out.mono ?_
        rintro e w5 ⟨A5, cap5, rfl, hl5, hm5, c5', xs5, hR5, hc5, hP5, ht5⟩
        have HR5 := Lib.hid hR5
        have HT5 := Lib.hid ht5
        have HT45 := Lib.hid (HT4.out.past hP5 hlt3.1 hlt3.2.1)
        have hlt5 := HR5.out.lt
        have hS5 := hP5.size
        have HLI := Lib.hid (HR5.out.list (by rw [hT2]; omega))
        rw [hT2] at HLI
        clear c0 c1 c2 c3 c4 c5 c6 hR5 ht5 hP5 HPA HR4 HT4
        obtain ⟨c0, c1, c2, c3, c4, c5, c6⟩ := HR5.out.cells
        go_wp2_with fail
        refine HLI.out.mono ?_
        rintro e w6 ⟨A6, cap6, rfl, hl6, hm6, ht6, hM6, hR6⟩
        have HT6 := Lib.hid ht6
        have HT46 := Lib.hid (HT45.out.made hM6)
        have HT56 := Lib.hid (HT5.out.made hM6)
        have HB6 : Hid (Made w w6) := hR6.bel
        clear c0 c1 c2 c3 c4 c5 c6 ht6 hM6 hR6 HLI HR5 HT45 HT5 HM4 hlt3 hlt4 hlt5 hS5 HQ HR hT hg hT2
        go_wp2_with fail
        go_loopw [22, 93] (fun nn i wz => ∃ k : Nat, i = .int .i64 (k : Int) ∧ k ≤ r ∧ nn = .int .i64 ((((T.take k).filter fun x => !decide (x.1 ∈ g)).length : Nat) : Int) ∧ Hid (Made w6 wz)) (fun _ i _ => (r - intOf i).toNat)
        case atStart => exact ⟨0, rfl, by omega, rfl, Lib.hid (Made.refl _)⟩
        case round =>
          obtain ⟨k, rfl, hk, rfl, HMk⟩ := hrel
          by_cases hlt : k < r
          · have i3 : (k : Int) < (r : Int) := by omega
            obtain ⟨⟨t, lv, sl⟩, hTk⟩ : ∃ x, T[k]? = some x := ⟨T[k]'(by omega), List.getElem?_eq_getElem (by omega)⟩
            have HTK := Lib.hid hTk
            have hne : T ≠ [] := fun c => by rw [c] at hTl; simp at hTl; omega
            obtain ⟨g4, cur4, ty4, rfl, _, hb4, hc4⟩ := (HT46.out.made HMk.out) (fun c => hne (by have := tc_len T; rw [c] at this; exact List.length_eq_zero_iff.1 (by simp at this; omega)))
            have x0 : wr.cell? ⟨g4, k * 3, none⟩ = some (.int .i64 (t : Int)) := by rw [cell_of_row _ _ _ _ _ _ hb4, hc4 _ (by rw [tc_len]; omega)]; exact (tc_at hTk).1
            have x1 : wr.cell? ⟨g4, k * 3 + 1, none⟩ = some (.int .i64 (lv : Int)) := by rw [cell_of_row _ _ _ _ _ _ hb4, hc4 _ (by rw [tc_len]; omega)]; exact (tc_at hTk).2.1
            have x2 : wr.cell? ⟨g4, k * 3 + 2, none⟩ = some (.int .i64 (sl : Int)) := by rw [cell_of_row _ _ _ _ _ _ hb4, hc4 _ (by rw [tc_len]; omega)]; exact (tc_at hTk).2.2
            obtain ⟨cnt, hcnt⟩ : ∃ cnt, ((T.take k).filter fun x => !decide (x.1 ∈ g)).length = cnt := ⟨_, rfl⟩
            have hnext := filter_take (fun x : Nat × Nat × Nat => !decide (x.1 ∈ g)) T k _ hTk
            have hget := filter_get (fun x : Nat × Nat × Nat => !decide (x.1 ∈ g)) T k _ hTk
            rw [← hfil.out] at hget
            rw [hcnt] at hnext hget
            have HNX := Lib.hid hnext
            have HGT := Lib.hid hget
            rw [hcnt]
            clear hb4 hc4 hTk hne hcnt hnext hget
            go_upto_region 23 with fail
            have hmx : Made wr (wr.alloc (.cells #[.int .i64 (t : Int), .int .i64 (lv : Int), .int .i64 (sl : Int)] 99)) := (Made.refl _).alloc (Nat.le_refl _) _
            have hbx : (wr.alloc (.cells #[.int .i64 (t : Int), .int .i64 (lv : Int), .int .i64 (sl : Int)] 99)).heap[wr.heap.size]? = some (.cells #[.int .i64 (t : Int), .int .i64 (lv : Int), .int .i64 (sl : Int)] 99 (0, 0)) := heap_alloc_new _ _
            generalize wr.alloc _ = wx at hmx hbx ⊢
            have HMX := Lib.hid (Made.trans HMk.out hmx)
            generalize wr.heap.size = gx at hbx ⊢
            have y0 : wx.cell? ⟨gx, 0, none⟩ = some (.int .i64 (t : Int)) := by rw [cell_of_row _ _ _ _ _ _ hbx]; rfl
            have y1 : wx.cell? ⟨gx, 1, none⟩ = some (.int .i64 (lv : Int)) := by rw [cell_of_row _ _ _ _ _ _ hbx]; rfl
            have y2 : wx.cell? ⟨gx, 2, none⟩ = some (.int .i64 (sl : Int)) := by rw [cell_of_row _ _ _ _ _ _ hbx]; rfl
            clear hmx hbx x0 x1 x2 HMk
            go_wp2_with fail
            go_loopw [25, 99] (fun aw i wz => ∃ m : Nat, i = .int .i64 (m : Int) ∧ m ≤ g.length ∧ aw = .bool (decide (t ∈ g.take m)) ∧ wz = wx) (fun _ i _ => (g.length - intOf i).toNat)
            case atStart => exact ⟨0, rfl, by omega, by simp, rfl⟩
            case round =>
              obtain ⟨m, rfl, hm, rfl, rfl⟩ := hrel
              by_cases hlm : m < g.length
              · have i4 : (m : Int) < (g.length : Int) := by omega
                have hgm : g[m]? = some g[m] := List.getElem?_eq_getElem hlm
                have hg0 : g ≠ [] := fun c => by rw [c] at hlm; simp at hlm
                obtain ⟨g5, cur5, ty5, rfl, _, hb5, hc5⟩ := (HT56.out.made HMX.out) (fun c => hg0 (by have : (vals g).length = 0 := by { rw [c]; rfl }
                                                                                                      unfold vals at this; rw [List.length_map] at this; exact List.length_eq_zero_iff.1 this))
                have x0 : wr.cell? ⟨g5, m, none⟩ = some (.int .i64 ((g[m] : Nat) : Int)) := by
                  rw [cell_of_row _ _ _ _ _ _ hb5, hc5 _ (by unfold vals; rw [List.length_map]; exact hlm)]
                  unfold vals; rw [List.getElem?_map, hgm]; rfl
                have htk : (t ∈ g.take (m + 1)) ↔ (t ∈ g.take m ∨ t = g[m]) := by
                  rw [List.take_add_one, hgm, List.mem_append]; simp only [Option.toList_some, List.mem_singleton]
                have HTK2 := Lib.hid htk
                generalize g[m] = u at x0 HTK2
                clear hb5 hc5 hg0 hgm htk
                by_cases hin : t ∈ g.take m
                · have hd : decide (t ∈ g.take m) = true := decide_eq_true hin
                  rw [hd]
                  have HD : Hid (decide (t ∈ g.take (m + 1)) = true) := decide_eq_true (HTK2.out.2 (Or.inl hin))
                  clear hd hin
                  go_wp2_with fail
                  go_roundw
                  case rel => exact ⟨m + 1, by go_num, by omega, congrArg Value.bool HD.out.symm, trivial⟩
                  case measure => simp [intOf]; omega
                · have hd : decide (t ∈ g.take m) = false := decide_eq_false hin
                  rw [hd]
                  have HD : Hid (((u : Int) == (t : Int)) = decide (t ∈ g.take (m + 1))) := by
                    rw [Bool.eq_iff_iff, beq_iff_eq, decide_eq_true_eq, HTK2.out]
                    constructor
                    · intro h; exact Or.inr (by omega)
                    · rintro (h | h); exact absurd h hin; omega
                  clear hd hin
                  go_wp2_with fail
                  go_roundw
                  case rel => exact ⟨m + 1, by go_num, by omega, congrArg Value.bool HD.out, trivial⟩
                  case measure => simp [intOf]; omega
              · obtain rfl : m = g.length := by omega
                rw [List.take_length]
                by_cases hin : t ∈ g
                · have hd : decide (t ∈ g) = true := decide_eq_true hin
                  rw [hd]
                  have HCN : Hid (cnt = ((T.take (k + 1)).filter fun x => !decide (x.1 ∈ g)).length) := by
                    have := HNX.out
                    rw [if_neg (by simp [hin])] at this
                    exact this.symm
                  clear hd hin HNX HGT
                  go_wp2_with fail
                  go_roundw
                  case rel => exact ⟨k + 1, by go_num, by omega, by rw [HCN.out], HMX⟩
                  case measure => simp [intOf]; omega
                · have hd : decide (t ∈ g) = false := decide_eq_false hin
                  rw [hd]
                  have HCN : Hid (cnt + 1 = ((T.take (k + 1)).filter fun x => !decide (x.1 ∈ g)).length) := by
                    have := HNX.out
                    rw [if_pos (by simp [hin])] at this
                    exact this.symm
                  have hget := HGT.out (by simp [hin])
                  have hc2 : cnt < T2.length := (List.getElem?_eq_some_iff.1 hget).1
                  have i5 : (cnt : Int) < (T2.length : Int) := by omega
                  have hne2 : T2 ≠ [] := fun c => by rw [c] at hc2; simp at hc2
                  obtain ⟨g6, cur6, ty6, rfl, _, hb6, hc6⟩ := (HT6.out.made HMX.out) (fun c => hne2 (by have := tc_len T2; rw [c] at this; exact List.length_eq_zero_iff.1 (by simp at this; omega)))
                  have x0 : wr.cell? ⟨g6, cnt * 3, none⟩ = some (.int .i64 (t : Int)) := by rw [cell_of_row _ _ _ _ _ _ hb6, hc6 _ (by rw [tc_len]; omega)]; exact (tc_at hget).1
                  have x1 : wr.cell? ⟨g6, cnt * 3 + 1, none⟩ = some (.int .i64 (lv : Int)) := by rw [cell_of_row _ _ _ _ _ _ hb6, hc6 _ (by rw [tc_len]; omega)]; exact (tc_at hget).2.1
                  have x2 : wr.cell? ⟨g6, cnt * 3 + 2, none⟩ = some (.int .i64 (sl : Int)) := by rw [cell_of_row _ _ _ _ _ _ hb6, hc6 _ (by rw [tc_len]; omega)]; exact (tc_at hget).2.2
                  clear hd hin HNX HGT hb6 hc6 hne2 hget
                  go_wp2_with fail
                  go_quiet (fail)
                  clear x0 x1 x2 i5
                  go_wp2_with fail
                  go_roundw
                  case rel => exact ⟨k + 1, by go_num, by omega, by rw [← HCN.out]; go_num, Made.trans HMX.out (Made.drewN _ _)⟩
                  case measure => simp [intOf]; omega
          · obtain rfl : k = r := by omega
            have HCN : Hid (((T.take k).filter fun x => !decide (x.1 ∈ g)).length = T2.length) := by
              rw [List.take_of_length_le (by omega), ← hfil.out]; exact Lib.hid rfl
            rw [HCN.out]
            have HMF := Lib.hid (Made.trans HB6.out HMk.out)
            have i6 : (T2.length : Int) + (g.length : Int) = (k : Int) := by omega
            go_wp2_with fail
            go_ret
            exact ⟨rfl, HMF.out⟩
theorem stays (a0 a1 a2 : Int) (v : Value) (zs : List Int) (a4 : Int) (w : World) (h0 : (Lit.int .u8 a0).wf = true) (h1 : (Lit.int .u8 a1).wf = true) (h2 : (Lit.int .u32 a2).wf = true) (hv : SlK .u32 w v zs) (hz : ∀ z ∈ zs, (Lit.int .u32 z).wf = true) (h4 : (Lit.int .u32 a4).wf = true) :
    Calls Try.prog 11 #[.int .u8 a0, .int .u8 a1, .int .u32 a2, v, .int .u32 a4] w fun e w' => e = .returned (.bool true) ∧ Made w w' := by
  obtain ⟨A, cap, rfl, hcap, hmax, hcell⟩ := slk_cell hv
  simp [Lit.wf, IntKind.min, IntKind.max, IntKind.signed, IntKind.bits] at h0 h1 h2 h4 hz
  exact stays_c a0 a1 a2 A cap zs a4 w h0 h1 h2 hcap hmax hcell hz h4
end Go.Proofs.Ytndpkonihcebeaa.Whl
