/- Package knelllaw10, walked: WheelEmpties. -/
import Derived.Test.YtndpkonihcebeaaPkp
import Derived.Test.YtndpkonihcebeaaPut
namespace Go.Proofs.Ytndpkonihcebeaa.Whl
open Go.RowKit Go.Proofs.Ytndpkonihcebeaa Go.Proofs.Ytndpkonihcebeaa.Cell Go.Proofs.Ytndpkonihcebeaa.Seq Go.Proofs.Ytndpkonihcebeaa.Num Go.Proofs.Ytndpkonihcebeaa.SetN Go.Proofs.Ytndpkonihcebeaa.Dig Go.Proofs.Ytndpkonihcebeaa.Bits
set_option linter.unusedVariables false
set_option linter.unusedSimpArgs false
variable {a b bl bs L S B N G : Nat}

/-- Behind a Pass to the last time nothing is left. -/
theorem Puts.gone {nw la : Int} {ds xs : List Int} {chs : Nat → Nat → List Nat} (h : Puts L S B nw ds chs) (hL : L ≤ 64) (h0 : 0 ≤ nw) (h1 : nw ≤ la) (h2 : la < 4294967296) (hd : ∀ d ∈ ds, d ≤ la) : ∀ a b, Val L S a b → passCh (crOf nw la B) L 0 chs a b = [] := fun a b hv => by
  classical
  rw [passCh_eq L 0 chs (by omega) a b hv]
  by_cases hp : ps (crOf nw la B) L 0 a b
  · rw [if_pos ⟨Nat.zero_le _, hp⟩]
  · rw [if_neg (fun c => hp c.2)]
    apply Classical.byContradiction
    intro hne
    obtain ⟨t, ht⟩ := List.exists_mem_of_ne_nil _ hne
    obtain ⟨d, e, hpl⟩ := h.at_ a b t hv ht
    have hle := hd d (List.mem_of_getElem? e)
    have e1 := tm_of h0 (by omega : nw < 4294967296)
    have e2 := tm_of (by omega : 0 ≤ la) h2
    have h3 := (hpl.stay hL (by omega) hp).1
    have h4 : tm d ≤ tm la := by
      by_cases hx : d < 0
      · unfold tm; rw [if_pos hx]; omega
      · have e3 := tm_of (by omega : 0 ≤ d) (by omega : d < 4294967296)
        omega
    omega
theorem listOf_none {chs : Nat → Nat → List Nat} (hS : 1 ≤ S) (h : ∀ a b, Val L S a b → chs a b = []) : listOf L S chs = [] := by
  rw [List.eq_nil_iff_forall_not_mem]
  intro x hx
  obtain ⟨hv, hm⟩ := (mem_listOf hS).1 hx
  rw [h _ _ hv] at hm
  simp at hm
def rowb (l : List Bool) : Array Value := (l.map Value.bool).toArray
theorem rowb_at {l : List Bool} {i : Nat} (h : i < l.length) : (rowb l)[i]? = some (.bool l[i]) := by unfold rowb; simp [h]
theorem rowb_put (l : List Bool) (i : Nat) (v : Bool) : (rowb l).setIfInBounds i (.bool v) = rowb (l.set i v) := by
  unfold rowb
  apply Array.ext'
  simp [List.map_set]
def Z20b : Array Value := #[.bool false, .bool false, .bool false, .bool false, .bool false, .bool false, .bool false, .bool false, .bool false, .bool false, .bool false, .bool false, .bool false, .bool false, .bool false, .bool false, .bool false, .bool false, .bool false, .bool false]
theorem z20b_row : Z20b = rowb (List.replicate 20 false) := rfl
theorem al20b (w : World) : (Instr.alloc 96 true (.tuple #[])).run Try.prog w = .ok (.pointer (some ⟨w.heap.size, 0, none⟩)) (w.alloc (.cells Z20b 96)) := by kernel_rfl
theorem bl20b : Try.prog.built 96 [] = some Z20b := by kernel_rfl
theorem set_alloc_new (w : World) (cs : Array Value) (t : TypeId) : (w.alloc (.cells cs t)).setRow w.heap.size cs = w.alloc (.cells cs t) := by
  rw [World.setRow_alloc_new]
set_option maxRecDepth 100000 in
set_option maxHeartbeats 2000000 in
theorem empties_c (a0 a1 a2 : Int) (A : Option Addr) (cap : Nat) (zs : List Int) (w : World) (h0 : 0 ≤ a0 ∧ a0 ≤ 255) (h1 : 0 ≤ a1 ∧ a1 ≤ 255) (h2 : 0 ≤ a2 ∧ a2 ≤ 4294967295) (hcap : zs.length ≤ cap) (hmax : cap ≤ maxLen) (hcell : ∀ i (hi : i < zs.length), ∃ d, A = some d ∧ d.block < w.heap.size ∧ w.cell? (d.add i) = some (.int .u32 zs[i])) (hz : ∀ z ∈ zs, 0 ≤ z ∧ z ≤ 4294967295) :
    Calls Try.prog 10 #[.int .u8 a0, .int .u8 a1, .int .u32 a2, .slice A zs.length cap] w fun e w' => e = .returned (.bool true) ∧ Made w w' := by
  have HC := Lib.hid hcell
  have HZ := Lib.hid hz
  have HN := Lib.hid (And.intro hcap hmax)
  clear hcell hz hcap hmax
  obtain ⟨n, hn⟩ : ∃ n, n = zs.length := ⟨_, rfl⟩
  rw [← hn]
  have HL := Lib.hid hn
  clear hn
  by_cases hbig : 20 < n
  · have i1 : (20 : Int) < (n : Int) := by omega
    go_enter Try.func10, Try.ntmps10
    go_wp2_with fail
    refine (speaks_c _).mono ?_
    rintro e w1 ⟨rfl, hm1⟩
    have HM1 := Lib.hid hm1
    clear hm1
    go_wp2_with fail
    refine (speaks_c _).mono ?_
    rintro e w2 ⟨rfl, hm2⟩
    have HM2 := Lib.hid hm2
    clear hm2
    go_wp2_with fail
    go_ret
    exact ⟨rfl, Made.trans HM1.out HM2.out⟩
  · have i1 : (n : Int) ≤ 20 := by omega
    go_enter Try.func10, Try.ntmps10
    go_wp2_with fail
    refine (speaks_c _).mono ?_
    rintro e w1 ⟨rfl, hm1⟩
    have HM1 := Lib.hid hm1
    clear hm1
    go_wp2_with fail
    obtain ⟨L, eL, hL1, hL5⟩ : ∃ L : Nat, 1 + a0 % 5 = (L : Int) ∧ 1 ≤ L ∧ L ≤ 5 := ⟨(1 + a0 % 5).toNat, by omega, by omega, by omega⟩
    obtain ⟨B, eB, hB1, hB4⟩ : ∃ B : Nat, 1 + a1 % 4 = (B : Int) ∧ 1 ≤ B ∧ B ≤ 4 := ⟨(1 + a1 % 4).toNat, by omega, by omega, by omega⟩
    rw [eL, eB]
    clear eL eB
    obtain ⟨S, hS, hS2, hS16⟩ : ∃ S : Nat, S = 2 ^ B ∧ 2 ≤ S ∧ S ≤ 16 := ⟨2 ^ B, rfl, Nat.pow_le_pow_right (n := 2) (i := 1) (by omega) hB1, Nat.pow_le_pow_right (n := 2) (j := 4) (by omega) hB4⟩
    have HS := Lib.hid hS
    clear hS
    refine (fresh_law L B S 20 hL1 (by omega) (by omega) hB1 HS.out hS2 (by omega) (by omega) w1).mono ?_
    rintro e w2 ⟨a, b, bl, bs, rfl, hw2, ha, hb, hm2⟩
    have ha' := Nat.le_trans HM1.out.size ha
    have hb' := Nat.le_trans HM1.out.size hb
    have HR := Lib.hid (Rest.start hw2 (Int.le_refl 0) ha' hb' (Made.trans HM1.out hm2) rfl)
    clear hw2 ha hb hm2 ha' hb'
    go_upto_region 9 with fail
    obtain ⟨nw, hnw, hn0, hn1⟩ : ∃ nw, a2 / 16 = nw ∧ 0 ≤ nw ∧ nw ≤ 268435455 := ⟨a2 / 16, rfl, by omega, by omega⟩
    rw [hnw]
    clear hnw
    have HP0 : Hid (Puts L S B nw (dues nw (zs.take 0)) (fun _ _ => [])) := Puts.empty nw
    generalize hgw : w2.alloc _ = w3 at HR ⊢
    clear hgw
    generalize w2.heap.size = G at HR ⊢
    go_wp2_with fail
    go_loopw [14, 55] (fun la i wr => ∃ (r : Nat) (c : Int) (xs : List Int) (chs : Nat → Nat → List Nat) (la0 : Int), la = .int .i64 la0 ∧ nw ≤ la0 ∧ la0 ≤ nw + 268435456 ∧ Hid (∀ d ∈ dues nw (zs.take r), d ≤ la0) ∧ i = .int .i64 (r : Int) ∧ r ≤ n ∧ c ≤ 5 * (r : Int) ∧ Hid (Rest a b bl bs L S B (1 + L * (1 + S) + 20) G w wr c xs chs) ∧ Hid (Puts L S B nw (dues nw (zs.take r)) chs)) (fun _ i _ => (n - intOf i).toNat)
    case atStart => exact ⟨0, 0, _, _, nw, rfl, by omega, by omega, by intro d hd; simp [dues] at hd, rfl, by omega, by omega, HR, HP0⟩
    case round =>
      obtain ⟨r, c, xs, chs, la0, rfl, hla0, hla1, HLA, rfl, hr, hc, HRr, HPr⟩ := hrel
      by_cases hlt : r < n
      · have i2 : (r : Int) < (n : Int) := by omega
        have hrz : r < zs.length := by have := HL.out; omega
        obtain ⟨d, rfl, hdl, hdc⟩ := HC.out r hrz
        have hdc2 := (Below.cell HRr.out.bel (p := d.add r) (by have : (d.add r).block = d.block := by { unfold Addr.add; split <;> rfl }
                                                                omega)).trans hdc
        obtain ⟨z, ez, hz0, hz1⟩ : ∃ z, zs[r] = z ∧ 0 ≤ z ∧ z ≤ 4294967295 := ⟨_, rfl, HZ.out _ (List.getElem_mem hrz)⟩
        rw [ez] at hdc2
        have HZR : Hid (zs[r]? = some z) := by rw [List.getElem?_eq_getElem hrz, ez]; rfl
        obtain ⟨c0, c1, c2, c3, c4, c5, c6⟩ := HRr.out.cells
        clear hdc ez
        have hr20 : r < 20 := by omega
        obtain ⟨q, hq⟩ : ∃ q, z / 16 = q := ⟨_, rfl⟩
        have hq0 : 0 ≤ q := by omega
        have hq1 : q ≤ 268435455 := by omega
        have htm : tm nw < tm (nw + 1 + q) := by
          have e1 := tm_of (t := nw) (by omega) (by omega)
          have e2 := tm_of (t := nw + 1 + q) (by omega) (by omega)
          omega
        have hlen : (dues nw (zs.take r)).length = r := by rw [dues_len, List.length_take]; omega
        have HF : Hid (∀ lv sl, Val L S lv sl → r ∉ chs lv sl) := fun lv sl hv m => HPr.out.fresh lv sl hv (by rw [hlen]; exact m)
        obtain ⟨lv, sl, hp, hvv, hI⟩ := HRr.out.insert (now := nw) (due := nw + 1 + q) hr20 (by omega) HF.out htm (by omega)
        have HI := Lib.hid hI
        have HPN : Hid (Puts L S B nw (dues nw (zs.take (r + 1))) (insCh r lv sl chs)) := by
          have h := HPr.out.put (d := nw + 1 + q) hp hvv
          rw [hlen] at h
          have h2 := dues_take (now := nw) HZR.out
          rw [hq] at h2
          have h3 : dues nw (zs.take (r + 1)) = dues nw (zs.take r) ++ [nw + 1 + q] := h2
          show Puts L S B nw (dues nw (zs.take (r + 1))) (insCh r lv sl chs)
          rw [h3]; exact h
        have HQ := Lib.hid hq
        have HLN : Hid (∀ la1, la0 ≤ la1 → nw + 1 + q ≤ la1 → ∀ d ∈ dues nw (zs.take (r + 1)), d ≤ la1) := by
          have h2 := dues_take (now := nw) HZR.out
          rw [hq] at h2
          intro la1 hlb0 hlb1 d hd
          rw [h2, List.mem_append] at hd
          rcases hd with hd | hd
          · exact Int.le_trans (HLA.out d hd) hlb0
          · simp only [List.mem_singleton] at hd; omega
        clear hI hp hvv htm hlen HF HZR hr20 hdl hq hrz HLA
        go_wp2_with fail
        · rw [HQ.out]
          refine HI.out.mono ?_
          rintro e w4 ⟨rfl, c', xs', hR4, hc', hP4⟩
          have HR4 := Lib.hid hR4
          clear hR4 hP4 HI
          clear c0 c1 c2 c3 c4 c5 c6 hdc2 HRr HPr
          go_wp2_with fail
          go_roundw
          case rel => have hqq := HQ.out; exact ⟨r + 1, c', xs', _, nw + 1 + q, rfl, by omega, by omega, Lib.hid (HLN.out _ (by omega) (by omega)), by go_num, by omega, by omega, HR4, HPN⟩
          case measure => simp [intOf]; omega
        · rw [HQ.out]
          refine HI.out.mono ?_
          rintro e w4 ⟨rfl, c', xs', hR4, hc', hP4⟩
          have HR4 := Lib.hid hR4
          clear hR4 hP4 HI
          clear c0 c1 c2 c3 c4 c5 c6 hdc2 HRr HPr
          go_wp2_with fail
          go_roundw
          case rel => have hqq := HQ.out; exact ⟨r + 1, c', xs', _, la0, rfl, by omega, by omega, Lib.hid (HLN.out _ (by omega) (by omega)), by go_num, by omega, by omega, HR4, HPN⟩
          case measure => simp [intOf]; omega
      · obtain rfl : r = n := by omega
        have hwst := HRr.out.whe.wst
        have hputs := HPr.out
        have hL64 : L ≤ 64 := by omega
        have hdl : (dues nw (zs.take r)).length = r := by
          rw [dues_len, List.length_take]
          have := HL.out
          omega
        have hnone := hputs.gone hL64 hn0 hla0 (by omega) HLA.out (xs := xs)
        obtain ⟨T, hT⟩ : ∃ T, listOf L S chs = T := ⟨_, rfl⟩
        obtain ⟨g, hg⟩ : ∃ g, passG (crOf nw la0 B) S L 0 chs = g := ⟨_, rfl⟩
        have hTl : T.length = r := by rw [← hT, hputs.len, hdl]
        have hno2 : listOf L S (passCh (crOf nw la0 B) L 0 chs) = [] := listOf_none hwst.s1 hnone
        have hgl : g.length = r := by
          have := pass_len (L := L) (S := S) (cr := crOf nw la0 B) (chs := chs) hwst.s1
          rw [hT, hno2, hg, hTl, List.length_nil] at this
          omega
        have HGN : Hid (g.Nodup) := by rw [← hg]; exact Lib.hid (passG_nodup hwst)
        have HGM : Hid (∀ t ∈ g, t < r) := by
          intro t ht
          rw [← hg] at ht
          obtain ⟨a', b', hv', _, hm'⟩ := (mem_passG hwst.s1).1 ht
          obtain ⟨d, e, _⟩ := hputs.at_ a' b' t hv' hm'
          have := (List.getElem?_eq_some_iff.1 e).1
          omega
        have HNO2 := Lib.hid hno2
        have HNONE := Lib.hid hnone
        have HLI := Lib.hid (HRr.out.list (by rw [hT]; omega))
        rw [hT] at HLI
        obtain ⟨c0, c1, c2, c3, c4, c5, c6⟩ := HRr.out.cells
        clear hwst HC HZ HPr HN hputs hdl hnone hno2 HLA
        rw [hTl] at HLI
        go_wp2_with fail
        refine HLI.out.mono ?_
        rintro e w4 ⟨A4, cap4, rfl, hl4, hm4, ht4, hM4, hR4⟩
        have HR4 := Lib.hid hR4
        have HPA := Lib.hid (HR4.out.pass (fr := nw) (to' := la0) (by omega) (by rw [hg]; omega))
        rw [hg] at HPA
        clear c0 c1 c2 c3 c4 c5 c6 hR4 ht4 hM4 HLI HRr
        obtain ⟨c0, c1, c2, c3, c4, c5, c6⟩ := HR4.out.cells
        go_wp2_with fail
        refine HPA.out.mono ?_
        rintro e w5 ⟨A5, cap5, rfl, hl5, hm5, c5', xs5, hR5, hc5, hP5, ht5⟩
        have HR5 := Lib.hid hR5
        have HT5 := Lib.hid ht5
        have HLI := Lib.hid (HR5.out.list (by rw [HNO2.out]; simp))
        rw [HNO2.out] at HLI
        clear c0 c1 c2 c3 c4 c5 c6 hR5 ht5 hP5 HPA HR4
        obtain ⟨c0, c1, c2, c3, c4, c5, c6⟩ := HR5.out.cells
        rw [hgl]
        rw [hgl] at hl5
        go_wp2_with fail
        refine HLI.out.mono ?_
        rintro e w6 ⟨A6, cap6, rfl, hl6, hm6, ht6, hM6, hR6⟩
        have HR6 := Lib.hid hR6
        have HT56 := Lib.hid (HT5.out.made hM6)
        clear c0 c1 c2 c3 c4 c5 c6 ht6 hM6 hR6 HLI HR5 HT5 HR hT hg HNO2 hTl
        have HSZ := Lib.hid (show (Try.prog.info? 96).map (·.size) = some 20 by kernel_rfl)
        have hm7 : Made w6 (w6.alloc (.cells Z20b 96)) := (Made.refl _).alloc (Nat.le_refl _) _
        have HS0 : Hid ((w6.alloc (.cells Z20b 96)).heap[w6.heap.size]? = some (.cells (rowb (List.replicate 20 false)) 96 (0, 0))) := by rw [← z20b_row]; exact Lib.hid (heap_alloc_new _ _)
        have HB6 : Hid (Made w w6) := HR6.out.bel
        go_wp2_with (first | (refine wpList_alloc_zero rfl 96 rfl Z20b al20b ?_) | (refine wpList_build_zero rfl 96 rfl Z20b bl20b ?_) | (refine wpList_store_row rfl 96 (.tmp 20) (.tmp 104) rfl w6.heap.size Z20b (by simp [Act.eval, Act.put]) (by simp [Act.eval, Act.put]) 96 Z20b (heap_alloc_new _ _) HSZ.out rfl (by decide +kernel) ?_; rw [World.setRow_alloc_new]))
        have HM7 := Lib.hid hm7
        have HLZ : Hid (∀ k, k < w6.heap.size → k ≠ k + w6.heap.size + 1) := fun k hk => by omega
        obtain ⟨w7, hw7⟩ : ∃ w7, w6.alloc (.cells Z20b 96) = w7 := ⟨_, rfl⟩
        rw [hw7] at HS0 HM7 ⊢
        clear hw7 hm7
        generalize hb5 : w6.heap.size = b5 at HS0 ⊢
        have HB5 := Lib.hid hb5
        clear hb5 HLZ
        go_loopw [107] (fun i wz => ∃ (m : Nat) (sn : List Bool), i = .int .i64 (m : Int) ∧ m ≤ r ∧ sn.length = 20 ∧ Hid (∀ j, j < 20 → (sn[j]? = some true ↔ j ∈ g.take m)) ∧ Hid (wz.heap[b5]? = some (.cells (rowb sn) 96 (0, 0))) ∧ Hid (Made w6 wz)) (fun i _ => (r - intOf i).toNat)
        case atStart => exact ⟨0, List.replicate 20 false, rfl, by omega, by simp, Lib.hid (by intro j hj; rw [List.getElem?_replicate, if_pos hj]; simp), HS0, HM7⟩
        case round =>
          obtain ⟨m, sn, rfl, hm, hsn, HSN, HSR, HBZ⟩ := hrel
          by_cases hlt : m < r
          · have i3 : (m : Int) < (r : Int) := by omega
            have hmg : m < g.length := by omega
            have hgm : g[m]? = some g[m] := List.getElem?_eq_getElem hmg
            have hg0 : vals g ≠ [] := fun c => by
              have : (vals g).length = 0 := by rw [c]; rfl
              unfold vals at this; rw [List.length_map] at this; omega
            obtain ⟨g5, cur5, ty5, rfl, hlo5, hb6, hc5⟩ := (HT56.out.made HBZ.out) hg0
            obtain ⟨u, hu⟩ : ∃ u, g[m] = u := ⟨_, rfl⟩
            have hur : u < r := HGM.out u (by rw [← hu]; exact List.getElem_mem hmg)
            have x0 : wr.cell? ⟨g5, m, none⟩ = some (.int .i64 (u : Int)) := by
              rw [cell_of_row _ _ _ _ _ _ hb6, hc5 _ (by unfold vals; rw [List.length_map]; exact hmg)]
              unfold vals; rw [List.getElem?_map, hgm, hu]; rfl
            have hun : u ∉ g.take m := fun c => by
              rw [List.mem_take_iff_getElem] at c
              obtain ⟨i, hi, e⟩ := c
              have := (List.getElem_inj (h₀ := by omega) (h₁ := hmg) HGN.out).1 (e.trans hu.symm)
              omega
            have hfu : sn[u]? = some false := by
              have h1 := HSN.out u (by omega)
              have h2 : u < sn.length := by omega
              rw [List.getElem?_eq_getElem h2] at h1 ⊢
              cases hv : sn[u] with
              | false => rfl
              | true => rw [hv] at h1; exact absurd (h1.1 rfl) hun
            have x1 : wr.cell? ⟨b5, u, none⟩ = some (.bool false) := by
              rw [cell_of_row _ _ _ _ _ _ HSR.out, rowb_at (by omega)]
              have h2 : u < sn.length := by omega
              rw [List.getElem?_eq_getElem h2] at hfu
              simp only [Option.some.injEq] at hfu
              rw [hfu]
            have z1 : wr.frozen? ⟨b5, u, none⟩ = false := frozen_of_row _ _ _ _ _ HSR.out
            have HS1 : Hid ((wr.setCell ⟨b5, u, none⟩ (.bool true)).heap[b5]? = some (.cells (rowb (sn.set u true)) 96 (0, 0))) := by
              show _ = _
              rw [setCell_eq_setRow _ _ _ _ _ _ _ HSR.out, heap_setRow_same _ _ _ _ _ _ HSR.out, rowb_put]
            have HB1 : Hid (Made w6 (wr.setCell ⟨b5, u, none⟩ (.bool true))) := Below.setCell HBZ.out (by show w6.heap.size ≤ b5; have := HB5.out; omega) _
            have HN1 : Hid (∀ j, j < 20 → ((sn.set u true)[j]? = some true ↔ j ∈ g.take (m + 1))) := by
              intro j hj
              rw [List.take_add_one, hgm, List.mem_append, Option.toList_some, List.mem_singleton, hu, ← HSN.out j hj, List.getElem?_set]
              by_cases e : u = j
              · subst e; simp [hsn, hj]
              · have e2 : ¬ j = u := fun c => e c.symm
                simp [e, e2]
            have hsl : (sn.set u true).length = 20 := by rw [List.length_set]; exact hsn
            have i5 : 0 ≤ (u : Int) := by omega
            have i6 : (u : Int) < (r : Int) := by omega
            have i7 : (u : Int) < 20 := by omega
            clear hgm hg0 hlo5 hb6 hc5 hu hun hfu HBZ HSN HSR hur hmg
            go_wp2_with fail
            go_roundw
            case rel => exact ⟨m + 1, _, by go_num, by omega, hsl, HN1, HS1, HB1⟩
            case measure => simp [intOf]; omega
          · obtain rfl : m = r := by omega
            have hR8 := HR6.out.made HBZ.out
            have hw8 := hR8.whe.wst
            have hpe := peek_none (B := B) hw8 la0 HNONE.out L 0 (by omega)
            have hLB : L * B ≤ 20 := Nat.mul_le_mul hL5 hB4
            have HPE := Lib.hid (hR8.peek (now := la0) (by omega) hLB)
            rw [hpe] at HPE
            obtain ⟨c0, c1, c2, c3, c4, c5, c6⟩ := hR8.cells
            clear hR8 hw8 hpe HSR HSN HBZ HR6
            go_wp2_with fail
            refine HPE.out.mono ?_
            rintro e w9 ⟨rfl, c9, hR9, _, _⟩
            have HR9 := Lib.hid hR9
            clear hR9 c0 c1 c2 c3 c4 c5 c6 HPE
            go_wp2_with fail
            go_ret
            exact ⟨rfl, HR9.out.bel⟩
theorem empties (a0 a1 a2 : Int) (v : Value) (zs : List Int) (w : World) (h0 : (Lit.int .u8 a0).wf = true) (h1 : (Lit.int .u8 a1).wf = true) (h2 : (Lit.int .u32 a2).wf = true) (hv : SlK .u32 w v zs) (hz : ∀ z ∈ zs, (Lit.int .u32 z).wf = true) :
    Calls Try.prog 10 #[.int .u8 a0, .int .u8 a1, .int .u32 a2, v] w fun e w' => e = .returned (.bool true) ∧ Made w w' := by
  obtain ⟨A, cap, rfl, hcap, hmax, hcell⟩ := slk_cell hv
  simp [Lit.wf, IntKind.min, IntKind.max, IntKind.signed, IntKind.bits] at h0 h1 h2 hz
  exact empties_c a0 a1 a2 A cap zs w h0 h1 h2 hcap hmax hcell hz
end Go.Proofs.Ytndpkonihcebeaa.Whl
