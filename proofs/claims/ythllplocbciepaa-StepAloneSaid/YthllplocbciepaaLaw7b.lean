/- Layer 7, StepAlone: true whatever the input. -/
import Derived.Test.YthllplocbciepaaLaw7a
import Derived.Test.YthllplocbciepaaPure7b
namespace Go.Proofs.Ythllplocbciepaa.Cod.Seven
open Go.RowKit Go.Proofs.Ythllplocbciepaa Go.Proofs.Ythllplocbciepaa.Cell
set_option linter.unusedVariables false
set_option linter.unusedSimpArgs false

theorem int_info : (Try.prog.info? 3).map (fun i => (i.zero, i.size, i.bytes)) = some (some (.int .i64 0), 1, 8) := by kernel_rfl
theorem made_ints (n : Nat) : madeCells (Value.int .i64 0).cells n = (List.replicate n (Value.int .i64 0)).toArray := by
  unfold madeCells
  apply Array.ext
  · simp
  · intro k h1 h2
    simp [Value.cells, Nat.mod_one]
theorem make_ints (n : Nat) (h : n ≤ 1048576) (w : World) : (Instr.makeSlice 32 (.int .i64 (n : Int)) (.int .i64 (n : Int))).run Try.prog w =
    .ok (.slice (some ⟨w.heap.size, 0, none⟩) n n) (w.alloc (.cells (List.replicate n (Value.int .i64 0)).toArray 3)) := by
  obtain ⟨i, hi, hq⟩ := Option.map_eq_some_iff.1 int_info
  simp only [Prod.mk.injEq] at hq
  obtain ⟨hz, hs, hb⟩ := hq
  have := run_makeSlice (P := Try.prog) w 32 3 i _ (by kernel_rfl) hi hz .i64 .i64 n n (by omega) (by omega) (by rw [hs]; simp; omega) (by rw [hb]; omega) (by omega)
  rw [this, hs]
  simp only [Int.toNat_natCast, Nat.mul_one]
  rw [made_ints]
/-- The beginning: an arena, and sums in a block. -/
theorem start7 {N ns : Nat} {w : World} {a b sb : Nat} {xs : List Int} {own : Nat → Prop} (hA : Arena w a b 0 xs) (hw : ∀ x ∈ xs, 0 ≤ x ∧ x < 18446744073709551616) (hl : xs.length ≤ 1048576) (hN : N < 4611686018427387904)
    (hr : w.heap[sb]? = some (.cells (row (List.replicate ns 0)) 22 (0, 0))) (hs : own sb) (ho : ∀ k, own k → k ≠ a ∧ k ≠ b ∧ k < w.heap.size) :
    Inv (S7 a b sb ns) N ⟨0, xs, [], ⟨List.replicate ns 0, []⟩⟩ [] ⟨[], own⟩ w :=
  Inv.start (S := S7 a b sb ns) hA hw hl hN ho ⟨hs, hr, by simp, zeros_wide ns, fun p hp => by simp at hp⟩
/-- Forty noughts. -/
def z40 : Array Value := (List.replicate 40 (Value.int .i64 0)).toArray

set_option maxRecDepth 100000 in
set_option maxHeartbeats 2000000 in
theorem alone_loop (A : Option Addr) (n c : Nat) (l : List Acc) (hn : Hid (n = l.length)) (h30 : n ≤ 30) (hnc : n ≤ c) (hc : c ≤ 9223372036854775807) (w : World) (hl : Hid (RdA w w.heap.size A l)) (hwf : Hid (∀ z ∈ l, z.Wf)) :
    Calls Try.prog 10 #[.slice A n c] w fun e w' => e = .returned (.bool true) ∧ Made w w' := by
  have HNW : Hid (∀ w, Calls Try.prog 36 #[.int .i64 4] w fun e w' => ∃ a b, e = .returned (.tuple #[.pointer (some ⟨a, 0, none⟩), .int .i64 0]) ∧ Arena w' a b 0 (List.replicate 4 0) ∧ w.heap.size ≤ a ∧ w.heap.size ≤ b ∧ Made w w') := fun w => New_ex 4 (by omega) (by omega) w
  have hn30 : ¬ 30 < (n : Int) := by omega
  have hmk : ∀ w : World, (Instr.makeSlice 32 (.int .i64 40) (.int .i64 40)).run Try.prog w = .ok (.slice (some ⟨w.heap.size, 0, none⟩) 40 40) (w.alloc (.cells z40 3)) := fun w => make_ints 40 (by omega) w
  go_enter Try.func10, Try.ntmps10
  go_wp2_with fail
  refine (Spk7.speaks_c _).mono ?_
  rintro e w0 ⟨rfl, hm0⟩
  go_wp2_with fail
  refine (HNW.out _).mono ?_
  rintro e w1 ⟨a, b, rfl, hA, hwa, hwb, hm1⟩
  go_wp2_with fail
  refine (HNW.out _).mono ?_
  rintro e w2 ⟨a', b', rfl, hA', hwa', hwb', hm2⟩
  have HM2 := Lib.hid (Made.trans (Made.trans hm0 hm1) hm2)
  have HA := Lib.hid (hA.later hm2)
  have HA' := Lib.hid hA'
  have la := (Array.getElem?_eq_some_iff.1 hA.ha).1
  have lb := (Array.getElem?_eq_some_iff.1 hA.hb).1
  have la' := (Array.getElem?_eq_some_iff.1 hA'.ha).1
  have lb' := (Array.getElem?_eq_some_iff.1 hA'.hb).1
  have h01 := hm0.size
  have h12 := hm1.size
  have h23 := hm2.size
  clear hA hA' hm0 hm1 hm2 HNW
  go_wp2_with fail
  have hm23 : Made w2 ((w2.alloc (.cells #[.int .u64 0] 22)).alloc (.cells #[.int .u64 0] 22)) := ((Made.refl _).alloc (Nat.le_refl _) _).alloc (by simp only [World.size_alloc]; omega) _
  have hb1 : ((w2.alloc (.cells #[.int .u64 0] 22)).alloc (.cells #[.int .u64 0] 22)).heap[w2.heap.size]? = some (.cells (row (List.replicate 1 0)) 22 (0, 0)) := by
    rw [Below.heap_alloc _ _ _ (by simp only [World.size_alloc]; omega)]
    exact heap_alloc_new _ _
  have hb2 : ((w2.alloc (.cells #[.int .u64 0] 22)).alloc (.cells #[.int .u64 0] 22)).heap[w2.heap.size + 1]? = some (.cells (row (List.replicate 1 0)) 22 (0, 0)) := by
    have := heap_alloc_new (w2.alloc (.cells #[.int .u64 0] 22)) (.cells #[.int .u64 0] 22)
    rw [World.size_alloc] at this
    exact this
  have HM3 := Lib.hid (Made.trans HM2.out hm23)
  have HA3 := Lib.hid (HA.out.later hm23)
  have HA3' := Lib.hid (HA'.out.later hm23)
  have hws := HM3.out.size
  have hsz : w2.heap.size + 2 = ((w2.alloc (.cells #[.int .u64 0] 22)).alloc (.cells #[.int .u64 0] 22)).heap.size := by simp only [World.size_alloc]
  have hw2 := HM2.out.size
  clear HA HA' HM2 hm23
  generalize (w2.alloc (.cells #[.int .u64 0] 22)).alloc (.cells #[.int .u64 0] 22) = w3 at *
  generalize hsb : w2.heap.size = sb at *
  have HB2 := Lib.hid hb2
  have HI3 : Hid (Inv (S7 a b sb 1) 4000 ⟨0, [0, 0, 0, 0], [], ⟨[0], []⟩⟩ [] ⟨[], fun k => k = sb⟩ w3) := start7 (N := 4000) HA3.out (zeros_wide 4) (by simp) (by omega) hb1 rfl (fun k hk => by subst hk; omega)
  have HO3 : Hid (Old (S7 a b sb 1) w.heap.size w3 ⟨[], fun k => k = sb⟩) := ⟨HM3.out.size, fun k hk e => by simp [Mut, S7] at e; omega⟩
  have HSZ := Lib.hid hsz
  clear hb1 hb2 hsb hsz HA3
  refine (code_all l 200 0 w.heap.size w3 _ A n c hn hnc hc (by omega) (fun k hk => HI3.out.mut_lt hk) HO3.out (hl.out.later HM3.out) hwf.out).mono ?_
  rintro e w4 ⟨v1, rfl, hm4, hr4⟩
  have HR5 := Lib.hid ((Ready.start (m := 200) (HI3.out.later hm4)).addtask hr4)
  have HV1 := Lib.hid hr4.func
  have hm5 : Made w4 (w4.alloc (.cells #[v1, .int .i64 0] 117)) := (Made.refl _).alloc (Nat.le_refl _) _
  have HM5 := Lib.hid (Made.trans (Made.trans HM3.out hm4) hm5)
  have HO5 := Lib.hid ((HO3.out.later (Ext.of_made hm4)).later (Ext.addtask v1))
  have HA5' := Lib.hid ((HA3'.out.later hm4).later hm5)
  have HB5 := Lib.hid ((hm5.block _ (by have := hm4.size; have := HSZ.out; omega)).trans ((hm4.block _ (by have := HSZ.out; omega)).trans HB2.out))
  have h35 := hm4.size
  have hsz5 : w4.heap.size + 1 = (w4.alloc (.cells #[v1, .int .i64 0] 117)).heap.size := by simp only [World.size_alloc]
  have HSZ5 := Lib.hid hsz5
  clear hm4 hm5 hr4 HI3 HO3 HM3 HA3' HB2 hsz5
  go_wp2_with fail
  refine (New_c HV1.out).mono ?_
  rintro e w5 ⟨rfl, rfl⟩
  generalize w4.alloc (.cells #[v1, .int .i64 0] 117) = w5 at *
  generalize w4.heap.size = t1 at *
  have HI5 : Hid (Inv (S7 a' b' (sb + 1) 1) 4000 ⟨0, [0, 0, 0, 0], [], ⟨[0], []⟩⟩ [] ⟨[], fun k => k = sb + 1 ∨ k = a ∨ k = b ∨ k = sb ∨ k = t1⟩ w5) :=
    start7 (N := 4000) HA5'.out (zeros_wide 4) (by simp) (by omega) HB5.out (Or.inl rfl) (fun k hk => by have := HSZ.out; have := HSZ5.out; omega)
  have HO5' : Hid (Old (S7 a' b' (sb + 1) 1) w.heap.size w5 ⟨[], fun k => k = sb + 1 ∨ k = a ∨ k = b ∨ k = sb ∨ k = t1⟩) := ⟨HM5.out.size, fun k hk e => by have := HSZ.out; simp [Mut, S7] at e; omega⟩
  have HNE : Hid (sb + 1 ≠ a ∧ sb + 1 ≠ b ∧ sb + 1 ≠ t1 ∧ sb + 1 ≠ sb) := by have h1 := HSZ.out; exact ⟨by omega, by omega, by omega, by omega⟩
  clear HA5' HB5 HV1 la lb la' lb' h01 h12 h23 hws hw2 hwa hwb hwa' hwb' h35
  go_wp2_with fail
  refine (code_all l 200 0 w.heap.size w5 _ A n c hn hnc hc (by omega) (fun k hk => HI5.out.mut_lt hk) HO5'.out (hl.out.later HM5.out) hwf.out).mono ?_
  rintro e w6 ⟨v2, rfl, hm6, hr6⟩
  have HV2 := Lib.hid hr6.func
  have hm7 : Made w6 (w6.alloc (.cells #[v2, .int .i64 0] 117)) := (Made.refl _).alloc (Nat.le_refl _) _
  have HR7' := Lib.hid ((Ready.start (m := 200) (HI5.out.later hm6)).addtask hr6)
  have HR7 := Lib.hid ((HR5.out.later hm6).later hm7)
  have HM7 := Lib.hid (Made.trans (Made.trans HM5.out hm6) hm7)
  have HO7 := Lib.hid ((HO5.out.later (Ext.of_made hm6)).later (Ext.of_made hm7))
  have HO7' := Lib.hid ((HO5'.out.later (Ext.of_made hm6)).later (Ext.addtask v2))
  clear hm6 hm7 hr6 HI5 HO5 HO5' HM5 HR5 HSZ HSZ5
  go_wp2_with fail
  refine (New_c HV2.out).mono ?_
  rintro e w7 ⟨rfl, rfl⟩
  generalize w6.alloc (.cells #[v2, .int .i64 0] 117) = w7 at *
  generalize w6.heap.size = t2 at *
  clear HV2
  obtain ⟨M1, hM1⟩ : ∃ M1 : Mach (S7 a b sb 1), M1 = ⟨[(0, l)], ⟨0, [0, 0, 0, 0], [0], ⟨[0], []⟩⟩⟩ := ⟨_, rfl⟩
  have HR8 : Hid (Ready (S7 a b sb 1) (170 + 30) (3900 + 2 * 30) M1 [v1] ⟨[t1], fun k => k = sb⟩ w7) := by rw [hM1]; exact HR7.out.lower (Nat.le_refl _) (by omega)
  have HK1 : Hid (M1.ks[0]? = some (0, l)) := by rw [hM1]; rfl
  have HS1 : Hid (M1.σ.steps[0]? = some 0) := by rw [hM1]; rfl
  have HLK : Hid (∀ kept, LikeM M1 (⟨[(0, l)], ⟨0, [0, 0, 0, 0], [0], ⟨[0], kept⟩⟩⟩ : Mach (S7 a' b' (sb + 1) 1))) := fun kept => by rw [hM1]; exact ⟨rfl, rfl, ⟨rfl, rfl, rfl⟩⟩
  clear hM1 HR7
  have HFI : Hid (Calls Try.prog 45 #[.pointer (some ⟨t1, 0, none⟩), .int .i64 30] w7 fun e w8 => e = .returned (.bool true) ∧ ∃ rs L', Hid (Ready (S7 a b sb 1) 170 3900 (M1.fin 0 30) rs L' w8) ∧ Hid (Ext (S7 a b sb 1) w7 ⟨[t1], fun k => k = sb⟩ w8 L') ∧ Hid (L'.ts = [t1])) := by
    refine (Finish_c (m := 170) (n := 3900) (N := 30) HR8.out (i := 0) (t := t1) rfl 30 (fun j h _ => by omega)).mono ?_
    rintro e w8 ⟨rs, L', rfl, hx, hts, hr⟩
    refine ⟨?_, rs, L', hr, hx, hts⟩
    have e : (M1.fin 0 (30 : Int).toNat).over 0 = true := by
      rw [fin_over HK1.out HS1.out]
      have := hn.out
      simp
      omega
    rw [e]
  clear HR8
  go_wp2_with fail
  refine HFI.out.mono ?_
  rintro e w8 ⟨rfl, rs1, L1, HR9, HX9, HT9⟩
  have HX9' : Hid (Ext (S7 a' b' (sb + 1) 1) w7 ⟨[t2], fun k => k = sb + 1 ∨ k = a ∨ k = b ∨ k = sb ∨ k = t1⟩ w8 ⟨[t2], fun k => k = sb + 1 ∨ k = a ∨ k = b ∨ k = sb ∨ k = t1⟩) :=
    Ext.swap HX9.out (fun k hk => by simp [Mut, S7] at hk ⊢; omega)
  have HI9' : Hid (Inv (S7 a' b' (sb + 1) 1) 4000 ⟨0, [0, 0, 0, 0], [0], ⟨[0], []⟩⟩ [v2] ⟨[t2], fun k => k = sb + 1 ∨ k = a ∨ k = b ∨ k = sb ∨ k = t1⟩ w8) := by
    have hv : Inv (S7 a' b' (sb + 1) 1) 4000 ⟨0, [0, 0, 0, 0], [0], ⟨[0], []⟩⟩ [v2] ⟨[t2], fun k => k = sb + 1 ∨ k = a ∨ k = b ∨ k = sb ∨ k = t1⟩ w7 := HR7'.out.inv
    refine Inv.other hv HX9.out.size (fun k hk => (HX9.out.block k ?_ ?_).2) rfl
    · apply hv.mut_lt
      rcases hk with rfl | rfl | hk | rfl
      · exact Or.inl rfl
      · exact Or.inr (Or.inl rfl)
      · exact Or.inr (Or.inr (Or.inl hk))
      · exact Or.inr (Or.inr (Or.inr (Or.inl rfl)))
    · intro hm
      have h1 := hv.owna a (by simp)
      have h2 := hv.owna b (by simp)
      have h3 := hv.owna sb (by simp)
      have h4 := hv.owna t1 (by simp)
      have h5 := (hv.tsa t2 (by simp)).2.2
      have h6 := HNE.out
      simp [Mut, S7] at hm hk h1 h2 h3 h4 h5
      omega
  have HR9' : Hid (∀ i k v, ([(0, l)] : List K7)[i]? = some k → [v2][i]? = some v → Rep (S7 a' b' (sb + 1) 1) 200 k v w8 ⟨[t2], fun k => k = sb + 1 ∨ k = a ∨ k = b ∨ k = sb ∨ k = t1⟩) := fun i k v h1 h2 => (HR7'.out.rep i k v h1 h2).later HX9'.out
  have HO9' := Lib.hid (HO7'.out.later HX9'.out)
  have HM9 := Lib.hid (Below.trans HM7.out (HO7.out.below HX9.out))
  have HNE2 := HNE
  clear HFI HX9 HX9' HR7' HO7 HO7' HM7 HNE
  go_wp2_with fail
  have hm10 : Made w8 ((w8.alloc (.cells #[.pointer (some ⟨t2, 0, none⟩)] 57)).alloc (.cells z40 3)) := ((Made.refl _).alloc (Nat.le_refl _) _).alloc (by simp only [World.size_alloc]; omega) _
  have hg1 : ((w8.alloc (.cells #[.pointer (some ⟨t2, 0, none⟩)] 57)).alloc (.cells z40 3)).heap[w8.heap.size]? = some (.cells #[.pointer (some ⟨t2, 0, none⟩)] 57 (0, 0)) := by
    rw [Below.heap_alloc _ _ _ (by simp only [World.size_alloc]; omega)]
    exact heap_alloc_new _ _
  have hg2 : ((w8.alloc (.cells #[.pointer (some ⟨t2, 0, none⟩)] 57)).alloc (.cells z40 3)).heap[w8.heap.size + 1]? = some (.cells z40 3 (0, 0)) := by
    have := heap_alloc_new (w8.alloc (.cells #[.pointer (some ⟨t2, 0, none⟩)] 57)) (.cells z40 3)
    rw [World.size_alloc] at this
    exact this
  have HG1 := Lib.hid (Lies.row (S := S7 a' b' (sb + 1) 1) (o := 0) (vs := [.pointer (some ⟨t2, 0, none⟩)]) hg1 (HI9'.out.new (Nat.le_refl _)) (fun i v h => by simpa using h))
  have HG2 := Lib.hid (Lies.row (S := S7 a' b' (sb + 1) 1) (o := 0) (vs := (List.replicate 40 (0 : Int)).map (.int .i64)) hg2 (HI9'.out.new (by omega)) (fun i v h => by
    rw [Nat.zero_add]
    unfold z40
    simpa using h))
  have HR10 := Lib.hid (HR9.out.later hm10)
  have HI10' := Lib.hid (HI9'.out.later hm10)
  have HR10' : Hid (∀ i k v, ([(0, l)] : List K7)[i]? = some k → [v2][i]? = some v → Rep (S7 a' b' (sb + 1) 1) 200 k v ((w8.alloc (.cells #[.pointer (some ⟨t2, 0, none⟩)] 57)).alloc (.cells z40 3)) ⟨[t2], fun k => k = sb + 1 ∨ k = a ∨ k = b ∨ k = sb ∨ k = t1⟩) := fun i k v h1 h2 => (HR9'.out i k v h1 h2).later (Ext.of_made hm10)
  have HO10' := Lib.hid (HO9'.out.later (Ext.of_made hm10))
  have HM10 := Lib.hid (Below.trans HM9.out (HO9'.out.below (Ext.of_made hm10)))
  clear hm10 hg1 hg2 HR9 HI9' HR9' HO9' HM9
  generalize (w8.alloc (.cells #[.pointer (some ⟨t2, 0, none⟩)] 57)).alloc (.cells z40 3) = w10 at *
  generalize w8.heap.size = g at *
  -- what the first system's blocks hold now
  have hfa := fin_at HK1.out HS1.out 30
  have hnl := hn.out
  rw [show 0 + min 30 l.length = n by omega] at hfa
  obtain ⟨σ1, hσ1⟩ : ∃ σ1 : St R7, σ1 = (M1.fin 0 30).σ := ⟨_, rfl⟩
  have hJ1 : J7 sb 1 σ1.r L1.own w10 := by rw [hσ1]; exact HR10.out.inv.rest
  have hA1 : Arena w10 a b σ1.c σ1.xs := by rw [hσ1]; exact HR10.out.inv.ar
  have hx1 : σ1.xs.length ≤ 1048576 := by rw [hσ1]; exact HR10.out.inv.len
  obtain ⟨k1, u1, s1, _, _, hs1, _, hc1⟩ := HR10.out.at (i := 0) (t := t1) (by rw [HT9.out]; rfl)
  rw [hfa.2] at hs1
  obtain rfl := Option.some.inj hs1
  obtain ⟨oa, hoa⟩ : ∃ o, w10.heap[a]? = some o := ⟨_, hA1.ha⟩
  obtain ⟨ob, hob⟩ : ∃ o, w10.heap[b]? = some o := ⟨_, hA1.hb⟩
  obtain ⟨os, hos⟩ : ∃ o, w10.heap[sb]? = some o := ⟨_, hJ1.row⟩
  obtain ⟨ot, hot⟩ : ∃ o, w10.heap[t1]? = some o := ⟨_, hc1⟩
  have hI2 := Inv.keep HI10'.out [(a, oa), (b, ob), (sb, os), (t1, ot)] (by
    intro p hp
    simp only [List.mem_cons, List.mem_nil_iff, or_false] at hp
    have hne : sb ≠ sb + 1 := by omega
    have ha2 := HI10'.out.owna a (by simp)
    rcases hp with rfl | rfl | rfl | rfl
    · exact ⟨by simp, by have := HNE2.out; omega, hoa⟩
    · exact ⟨by simp, by have := HNE2.out; omega, hob⟩
    · exact ⟨by simp, hne, hos⟩
    · exact ⟨by simp, by have := HNE2.out; omega, hot⟩)
  have HR11 : Hid (Ready (S7 a' b' (sb + 1) 1) (160 + 40) (3900 + 2 * 40) ⟨[(0, l)], ⟨0, [0, 0, 0, 0], [0], ⟨[0], [(a, oa), (b, ob), (sb, os), (t1, ot)]⟩⟩⟩ [v2] ⟨[t2], fun k => k = sb + 1 ∨ k = a ∨ k = b ∨ k = sb ∨ k = t1⟩ w10) := ⟨hI2.lower (by omega), rfl, HR10'.out⟩
  obtain ⟨kept, hkept⟩ : ∃ kept : List (Nat × Obj), kept = [(a, oa), (b, ob), (sb, os), (t1, ot)] := ⟨_, rfl⟩
  have HR12 : Hid (Ready (S7 a' b' (sb + 1) 1) (160 + 40) (3900 + 2 * 40) ⟨[(0, l)], ⟨0, [0, 0, 0, 0], [0], ⟨[0], kept⟩⟩⟩ [v2] ⟨[t2], fun k => k = sb + 1 ∨ k = a ∨ k = b ∨ k = sb ∨ k = t1⟩ w10) := by rw [hkept]; exact HR11.out
  obtain ⟨M2, hM2⟩ : ∃ M2 : Mach (S7 a' b' (sb + 1) 1), M2 = ⟨[(0, l)], ⟨0, [0, 0, 0, 0], [0], ⟨[0], kept⟩⟩⟩ := ⟨_, rfl⟩
  rw [← hM2] at HR12
  have hk2 : M2.ks[0]? = some (0, l) := by rw [hM2]; rfl
  have hs2 : M2.σ.steps[0]? = some 0 := by rw [hM2]; rfl
  have hl2 : M2.ks.length = 1 := by rw [hM2]; rfl
  have hkp : M2.σ.r.kept = kept := by rw [hM2]
  have hlike : LikeM M1 M2 := by rw [hM2]; exact HLK.out kept
  have hRN := Run_c (m := 160) (n := 3900) (c := 1) (c' := 40) (List.replicate 40 (0 : Int)) (by rw [List.length_replicate]; exact HR12.out) (N := 1) (N' := 40) (Lib.hid rfl) (Lib.hid (by simp)) (by omega) HG1.out HG2.out
  have hcnt := run_zeros_count hl2 hk2 hs2 40
  rw [show min 40 l.length = n by omega] at hcnt
  have hend := run_zeros M2 hl2 40
  have hL40 := fin_like hlike 0 40
  have hov1 : (M1.fin 0 30).over 0 = true := by rw [fin_over HK1.out HS1.out]; simp; omega
  rw [show M1.fin 0 40 = M1.fin 0 30 from Mach.fin_over (M := M1) (i := 0) (j := 30) hov1 10] at hL40
  have hfa2 := fin_at hk2 hs2 40
  rw [show 0 + min 40 l.length = n by omega, List.drop_eq_nil_of_le (by omega)] at hfa2
  have hRN2 : Hid (Calls Try.prog 39 #[.slice (some ⟨g, 0, none⟩) 1 1, .slice (some ⟨g + 1, 0, none⟩) 40 40] w10 fun e w11 => e = .returned (.int .i64 (n : Int)) ∧ ∃ (c2 S : Int) (u2 : Value),
      Hid (Arena w11 a b σ1.c σ1.xs) ∧ Hid (Arena w11 a' b' c2 σ1.xs) ∧ w11.cell? ⟨sb, 0, none⟩ = some (.int .u64 S) ∧ w11.cell? ⟨sb + 1, 0, none⟩ = some (.int .u64 S) ∧
      Hid (Calls Try.prog 40 #[.pointer (some ⟨t1, 0, none⟩)] w11 fun e w' => e = .returned (.int .i64 (n : Int)) ∧ w11 = w') ∧ Hid (Calls Try.prog 40 #[.pointer (some ⟨t2, 0, none⟩)] w11 fun e w' => e = .returned (.int .i64 (n : Int)) ∧ w11 = w') ∧
      Hid (Calls Try.prog 41 #[.pointer (some ⟨t2, 0, none⟩)] w11 fun e w' => e = .returned (.bool true) ∧ w11 = w') ∧ Hid (Below w.heap.size w w11)) := by
    refine hRN.mono ?_
    rintro e w11 ⟨rs2, L2, rfl, hx, hts, hr⟩
    have hkk := run_kept M2 (List.replicate 40 0)
    rw [hkp] at hkk
    rw [hend] at hr hkk
    have kp : ∀ (k : Nat) (o : Obj), (k, o) ∈ kept → w11.heap[k]? = some o := fun k o h => Inv.kept hr.inv (by rw [hkk]; exact h)
    have ka := kp a oa (by rw [hkept]; exact List.mem_cons_self)
    have kb := kp b ob (by rw [hkept]; exact List.mem_cons_of_mem _ List.mem_cons_self)
    have ks := kp sb os (by rw [hkept]; exact List.mem_cons_of_mem _ (List.mem_cons_of_mem _ List.mem_cons_self))
    have kt := kp t1 ot (by rw [hkept]; exact List.mem_cons_of_mem _ (List.mem_cons_of_mem _ (List.mem_cons_of_mem _ List.mem_cons_self)))
    have hA11 : Arena w11 a b σ1.c σ1.xs := arena_same hA1 (ka.trans hoa.symm) (kb.trans hob.symm)
    have hxs := hL40.like.xs
    have hsm := hL40.like.sums
    rw [← hσ1] at hxs hsm
    have hA2 := hr.inv.ar
    rw [← hxs] at hA2
    obtain ⟨cs2, zs2⟩ := sum_cell (i := 0) hr.inv (by omega)
    rw [← hsm] at cs2
    have hts2 : L2.ts[0]? = some t2 := by rw [hts]; rfl
    refine ⟨by rw [hcnt], _, _, .nilFunc, hA11, hA2, ?_, cs2, steps_of ((kt.trans hot.symm).trans hc1), Steps_i hr hts2 hfa2.2, Ended_c hr hts2 hfa2.1, Below.trans HM10.out (HO10'.out.below hx)⟩
    have hl1 : 0 < σ1.r.sums.length := by rw [hJ1.len]; omega
    rw [cell_of_row _ _ _ _ _ _ ((ks.trans hos.symm).trans hJ1.row), List.getD_eq_getElem?_getD, List.getElem?_eq_getElem hl1]
    exact row_at' hl1
  clear hRN hcnt hend hL40 hov1 hfa2 hfa hnl hσ1 hJ1 hA1 hI2 HR11 HR12 hM2 hk2 hs2 hl2 hkp hlike hkept HR10 HI10' HR10' HO10' HM10 HG1 HG2 hc1 HT9 HLK HK1 HS1 HNE2
  refine hRN2.out.mono ?_
  rintro e w11 ⟨rfl, c2, S, u2, HA1, HA2, cx, cy, HST1, HST2, HEN2, HM11⟩
  clear hRN2
  go_wp2_with fail
  refine HEN2.out.mono ?_
  rintro e w12 ⟨rfl, rfl⟩
  go_wp2_with fail
  refine HST1.out.mono ?_
  rintro e w12 ⟨rfl, rfl⟩
  go_wp2_with fail
  refine HST2.out.mono ?_
  rintro e w12 ⟨rfl, rfl⟩
  have HXL := Lib.hid hx1
  generalize σ1.xs = xs at *
  generalize σ1.c = c1 at *
  clear hx1 HST1 HST2 HEN2 cx cy
  obtain ⟨q, hq⟩ : ∃ q, q = xs.length := ⟨_, rfl⟩
  have HQ := Lib.hid hq
  have HAL1 : Hid (Calls Try.prog 42 #[.pointer (some ⟨a, 0, none⟩)] w11 fun e w' => e = .returned (.slice (some ⟨w11.heap.size, 0, none⟩) q q) ∧ w'.heap[w11.heap.size]? = some (.cells (row xs) 22 (0, 0)) ∧ Made w11 w') := by
    have h := All_c HA1.out HXL.out
    rw [← hq] at h
    exact h
  have hqb : (q : Int) ≤ 1048576 := by have := HXL.out; omega
  clear hq
  go_wp2_with fail
  refine HAL1.out.mono ?_
  rintro e w12 ⟨rfl, hrow, hm12⟩
  have hgl := (Array.getElem?_eq_some_iff.1 hrow).1
  have HRW := Lib.hid hrow
  have HA12 := Lib.hid (HA2.out.later hm12)
  have HM12 := Lib.hid (Below.trans HM11.out (Below.mono hm12 HM11.out.size))
  clear hrow hm12 HAL1 HA1 HA2 HM11
  generalize w11.heap.size = g1 at *
  go_wp2_with fail
  go_loopw [83] (fun iv wr => ∃ k : Nat, k ≤ q ∧ iv = .int .i64 k ∧ Hid (Made w12 wr)) (fun iv _ => (q - intOf iv).toNat)
  case atStart => exact ⟨0, by omega, rfl, Lib.hid (Made.refl _)⟩
  case round =>
    obtain ⟨k, hk, rfl, HMr⟩ := hrel
    by_cases hlt : k < q
    · have hkx : k < xs.length := by have := HQ.out; omega
      have i0 : (0 : Int) ≤ (k : Int) := by omega
      have i1 : (k : Int) < (q : Int) := by omega
      have cA : wr.cell? ⟨g1, k, none⟩ = some (.int .u64 xs[k]) := by
        rw [cell_of_row _ _ _ _ _ _ ((HMr.out.block _ hgl).trans HRW.out)]
        exact row_at' hkx
      have HAL2 : Hid (Calls Try.prog 42 #[.pointer (some ⟨a', 0, none⟩)] wr fun e w' => e = .returned (.slice (some ⟨wr.heap.size, 0, none⟩) q q) ∧ w'.cell? ⟨wr.heap.size, k, none⟩ = some (.int .u64 xs[k]) ∧ Made wr w') := by
        have h := All_c (HA12.out.later HMr.out) HXL.out
        rw [← HQ.out] at h
        exact h.mono fun e w' ⟨h1, h2, h3⟩ => ⟨h1, by rw [cell_of_row _ _ _ _ _ _ h2]; exact row_at' hkx, h3⟩
      generalize xs[k] = v at cA HAL2
      clear hkx
      go_wp2_with fail
      refine HAL2.out.mono ?_
      rintro e w13 ⟨rfl, cB, hm13⟩
      have HM13 := Lib.hid (Made.trans HMr.out hm13)
      clear hm13 HAL2
      go_wp2_with fail
      go_roundw
      case rel => exact ⟨k + 1, by omega, by go_num, HM13⟩
      case measure => simp [intOf]; omega
    · obtain rfl : k = q := by omega
      have HF := Lib.hid (Below.trans HM12.out (Below.mono HMr.out HM12.out.size))
      go_wp2_with fail
      go_ret
      exact ⟨rfl, HF.out⟩
set_option maxRecDepth 100000 in
set_option maxHeartbeats 400000 in
theorem alone_far (A : Option Addr) (n c : Nat) (hn : 30 < n) (hn' : (n : Int) ≤ 9223372036854775807) (w : World) :
    Calls Try.prog 10 #[.slice A n c] w fun e w' => e = .returned (.bool true) ∧ Made w w' := by
  have hn1 : 30 < (n : Int) := by omega
  go_enter Try.func10, Try.ntmps10
  go_wp2_with fail
  refine (Spk7.speaks_c _).mono ?_
  rintro e w0 ⟨rfl, hm0⟩
  go_wp2_with fail
  refine (Spk7.speaks_c _).mono ?_
  rintro e w1 ⟨rfl, hm1⟩
  go_wp2_with fail
  go_ret
  exact ⟨rfl, Made.trans hm0 hm1⟩
theorem alone (v : Value) (l : List Acc) (w : World) (hv : SlA w v l) :
    Calls Try.prog 10 #[v] w fun e w' => e = .returned (.bool true) ∧ Made w w' := by
  obtain ⟨A, c, rfl, _, hlc, hc, hr, hwf⟩ := hv
  unfold maxLen at hc
  by_cases h30 : l.length ≤ 30
  · exact alone_loop A l.length c l rfl h30 hlc (by omega) w hr hwf
  · exact alone_far A l.length c (by omega) (by omega) w
end Go.Proofs.Ythllplocbciepaa.Cod.Seven
