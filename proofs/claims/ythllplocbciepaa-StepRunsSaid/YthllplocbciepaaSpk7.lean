/- The example of chapter 07's laws (knelllaw07.speaks): true. -/
import Derived.Test.YthllplocbciepaaCod6
namespace Go.Proofs.Ythllplocbciepaa.Cod.Spk7
open Go.RowKit Go.Proofs.Ythllplocbciepaa Go.Proofs.Ythllplocbciepaa.Cell
set_option linter.unusedVariables false
set_option linter.unusedSimpArgs false

/-- Code of the example: it reads, it writes, nothing. -/
inductive K0 where
  | load
  | store (v : Int)
  | done
/-- The example's system. -/
def S0 (a b : Nat) : Sys where
  R := Unit
  K := K0
  nil := fun k => match k with | .done => true | _ => false
  next := fun k σ => match k with
    | .load => (.store (IntKind.u64.wrap ((σ.ld 0).1 + 1)), (σ.ld 0).2)
    | .store v => (.done, σ.sto 0 v)
    | .done => (.done, σ)
  a := a
  b := b
  J := fun _ _ _ => True
  stable := fun _ _ _ _ _ h => h
variable {a b : Nat}

set_option maxRecDepth 100000 in
set_option maxHeartbeats 1000000 in
theorem end_takes {m : Nat} {w : World} {L : Lay} : Takes (S0 a b) m #[] (fun σ => (.done, σ)) (.func (.func 64) #[] #[]) w L := by
  refine ⟨_, _, rfl, enters_of Try.func64 (by kernel_rfl) rfl, fun q w' L' σ rs hx hv => ?_⟩
  have HF : Hid (Gives (S0 a b) m q (.done, σ) rs L' w' (.returned .nilFunc) w') := ⟨_, L', rfl, Ext.refl _ _, Keeps.refl _ _, hv, Rep.none rfl⟩
  clear hv hx
  rw [Array.empty_append]
  go_enter Try.func64, Try.ntmps64
  go_wp2_with fail
  go_ret
  exact HF.out
set_option maxRecDepth 100000 in
set_option maxHeartbeats 1000000 in
theorem wr_takes {m : Nat} {w : World} {L : Lay} {b1 : Nat} (x : Int) (h1 : Box (S0 a b) w L b1 (.pointer (some ⟨a, 0, none⟩))) : Takes (S0 a b) m #[.int .u64 x] (fun σ => (.store (IntKind.u64.wrap (x + 1)), σ)) (.func (.func 62) #[] #[.pointer (some ⟨b1, 0, none⟩)]) w L := by
  refine ⟨_, _, rfl, enters_of Try.func62 (by kernel_rfl) rfl, fun q w' L' σ rs hx hv => ?_⟩
  have c1 := (h1.later hx).cell
  obtain ⟨y, hy⟩ : ∃ y, y = IntKind.u64.wrap (x + 1) := ⟨_, rfl⟩
  have HY := Lib.hid hy
  have hyw : 0 ≤ y ∧ y < 18446744073709551616 := by rw [hy, IntKind.wrap_u64]; omega
  have HC : Hid (Calls Try.prog 63 #[.pointer (some ⟨a, 0, none⟩), .int .i64 0, .int .u64 y, .func (.func 64) #[] #[]] w' (Makes (S0 a b) (m + 1) (.store y) L' w')) :=
    Store_mk (S := S0 a b) hyw (fun k hk => hv.mut_lt hk) rfl (fun σ => rfl) end_takes
  have HD : Hid (∀ e w2, Makes (S0 a b) (m + 1) (.store y) L' w' e w2 → Gives (S0 a b) m q (.store y, σ) rs L' w' e w2 ∧ ∃ v, e = .returned v) := by
    rintro e w2 ⟨v, rfl, hm, hr⟩
    exact ⟨⟨v, L', rfl, Ext.of_made hm, hv.keeps_made hm, hv.later hm, hr.lower⟩, v, rfl⟩
  rw [← hy]
  clear hv hx h1 hyw hy
  go_enter Try.func62, Try.ntmps62
  go_wp2_with fail
  rw [← HY.out]
  refine HC.out.mono ?_
  rintro e w2 hmk
  obtain ⟨hg, v, rfl⟩ := HD.out e w2 hmk
  have HF := Lib.hid hg
  clear hg hmk HC HD HY
  go_wp2_with fail
  go_ret
  exact HF.out
set_option maxRecDepth 100000 in
set_option maxHeartbeats 1000000 in
theorem one_c {m : Nat} {w : World} {L : Lay} {b1 : Nat} (hL : ∀ k, Mut (S0 a b) L k → k < w.heap.size) (h1 : Box (S0 a b) w L b1 (.pointer (some ⟨a, 0, none⟩))) :
    Calls Try.prog 60 #[.pointer (some ⟨b1, 0, none⟩)] w (Makes (S0 a b) (m + 1) .load L w) := by
  have c1 := h1.cell
  have HC : Hid (Calls Try.prog 61 #[.pointer (some ⟨a, 0, none⟩), .int .i64 0, .func (.func 62) #[] #[.pointer (some ⟨b1, 0, none⟩)]] w (Makes (S0 a b) (m + 1) .load L w)) :=
    Load_mk (S := S0 a b) hL rfl (fun σ => rfl) (fun x _ _ => wr_takes x h1)
  have HD : Hid (∀ e w2, Makes (S0 a b) (m + 1) .load L w e w2 → ∃ v, e = .returned v) := by
    rintro e w2 ⟨v, rfl, _⟩
    exact ⟨v, rfl⟩
  clear hL h1
  go_enter Try.func60, Try.ntmps60
  go_wp2_with fail
  refine HC.out.mono ?_
  rintro e w2 hmk
  obtain ⟨v, rfl⟩ := HD.out e w2 hmk
  have HF := Lib.hid hmk
  clear hmk HC HD
  go_wp2_with fail
  go_ret
  exact HF.out
theorem run_ex : Mach.run (S := S0 a b) ⟨[.load, .load], ⟨0, [0], [0, 0], ()⟩⟩ [0, 1, 0, 1] = (⟨[.done, .done], ⟨4, [1], [2, 2], ()⟩⟩, 4) := rfl
set_option maxRecDepth 100000 in
set_option maxHeartbeats 2000000 in
theorem speaks_c (w : World) : Calls Try.prog 34 #[] w fun e w' => e = .returned (.bool true) ∧ Made w w' := by
  have HNW : Hid (∀ w, Calls Try.prog 36 #[.int .i64 1] w fun e w' => ∃ a b, e = .returned (.tuple #[.pointer (some ⟨a, 0, none⟩), .int .i64 0]) ∧ Arena w' a b 0 (List.replicate 1 0) ∧ w.heap.size ≤ a ∧ w.heap.size ≤ b ∧ Made w w') := fun w => New_ex 1 (by omega) (by omega) w
  go_enter Try.func34, Try.ntmps34
  go_wp2_with fail
  refine (HNW.out _).mono ?_
  rintro e w1 ⟨a, b, rfl, hA, hwa, hwb, hm1⟩
  have HA := Lib.hid hA
  have HM1 := Lib.hid hm1
  clear hA hm1 HNW
  have hi1 : Hid (Inv (S0 a b) 20 ⟨0, [0], [], ()⟩ [] ⟨[], fun _ => False, fun _ => False⟩ w1) := Inv.start (S := S0 a b) HA.out (zeros_wide 1) (by simp) (by omega) (fun k hk => hk.elim) trivial
  have HL1 : Hid (∀ k, Mut (S0 a b) ⟨[], fun _ => False, fun _ => False⟩ k → k < w1.heap.size) := fun k hk => hi1.out.mut_lt hk
  have HB1 : Hid (Box (S0 a b) (w1.alloc (.cells #[.pointer (some ⟨a, 0, none⟩)] 50)) ⟨[], fun _ => False, fun _ => False⟩ w1.heap.size (.pointer (some ⟨a, 0, none⟩))) := Box.new HL1.out rfl
  have HM2 : Hid (Made w (w1.alloc (.cells #[.pointer (some ⟨a, 0, none⟩)] 50))) := Made.trans HM1.out ((Made.refl _).alloc (Nat.le_refl _) _)
  have HI2 : Hid (Inv (S0 a b) 20 ⟨0, [0], [], ()⟩ [] ⟨[], fun _ => False, fun _ => False⟩ (w1.alloc (.cells #[.pointer (some ⟨a, 0, none⟩)] 50))) := hi1.out.later ((Made.refl _).alloc (Nat.le_refl _) _)
  have HO2 : Hid (Old (S0 a b) w.heap.size (w1.alloc (.cells #[.pointer (some ⟨a, 0, none⟩)] 50)) ⟨[], fun _ => False, fun _ => False⟩) := ⟨HM2.out.size, fun k hk e => by simp [Mut, S0] at e; omega⟩
  clear hi1 HL1 HM1 HA hwa hwb
  go_wp2_with fail
  generalize w1.alloc (.cells #[.pointer (some ⟨a, 0, none⟩)] 50) = w2 at *
  generalize w1.heap.size = t1 at *
  refine (one_c (m := 7) (fun k hk => HI2.out.mut_lt hk) HB1.out).mono ?_
  rintro e w3 ⟨v1, rfl, hm3, hr3⟩
  obtain ⟨f1, cap1, rfl⟩ := hr3.live rfl
  have HR4 := Lib.hid ((Ready.start (m := 8) (HI2.out.later hm3)).addtask hr3)
  have HB4 := Lib.hid ((HB1.out.later (Ext.of_made hm3)).later (Ext.addtask (.func (.func f1) #[] cap1)))
  have HM4 := Lib.hid (Made.trans (Made.trans HM2.out hm3) ((Made.refl _).alloc (Nat.le_refl _) (.cells #[.func (.func f1) #[] cap1, .int .i64 0] 117)))
  have HO4 := Lib.hid ((HO2.out.later (Ext.of_made hm3)).later (Ext.addtask (.func (.func f1) #[] cap1)))
  clear hm3 hr3 HB1 HI2 HM2 HO2
  go_wp2_with fail
  refine (New_c (Or.inr ⟨f1, cap1, rfl⟩)).mono ?_
  rintro e w4 ⟨rfl, rfl⟩
  generalize w3.alloc (.cells #[.func (.func f1) #[] cap1, .int .i64 0] 117) = w4 at *
  generalize w3.heap.size = p1 at *
  go_wp2_with fail
  refine (one_c (m := 7) (fun k hk => HR4.out.inv.mut_lt hk) HB4.out).mono ?_
  rintro e w5 ⟨v2, rfl, hm5, hr5⟩
  obtain ⟨f2, cap2, rfl⟩ := hr5.live rfl
  have HR6 := Lib.hid ((HR4.out.later hm5).addtask hr5)
  have HB6 := Lib.hid ((HB4.out.later (Ext.of_made hm5)).later (Ext.addtask (.func (.func f2) #[] cap2)))
  have HM6 := Lib.hid (Made.trans (Made.trans HM4.out hm5) ((Made.refl _).alloc (Nat.le_refl _) (.cells #[.func (.func f2) #[] cap2, .int .i64 0] 117)))
  have HO6 := Lib.hid ((HO4.out.later (Ext.of_made hm5)).later (Ext.addtask (.func (.func f2) #[] cap2)))
  clear hm5 hr5 HB4 HR4 HM4 HO4
  go_wp2_with fail
  refine (New_c (Or.inr ⟨f2, cap2, rfl⟩)).mono ?_
  rintro e w6 ⟨rfl, rfl⟩
  generalize w5.alloc (.cells #[.func (.func f2) #[] cap2, .int .i64 0] 117) = w6 at *
  generalize w5.heap.size = p2 at *
  go_wp2_with fail
  have HM8 := Lib.hid (Made.trans (Made.trans HM6.out ((Made.refl _).alloc (Nat.le_refl _) (.cells #[.pointer (some ⟨p1, 0, none⟩), .pointer (some ⟨p2, 0, none⟩)] 57))) ((Made.refl _).alloc (Nat.le_refl _) (.cells #[.int .i64 0, .int .i64 1, .int .i64 0, .int .i64 1] 3)))
  have hm68 : Made w6 ((w6.alloc (.cells #[.pointer (some ⟨p1, 0, none⟩), .pointer (some ⟨p2, 0, none⟩)] 57)).alloc (.cells #[.int .i64 0, .int .i64 1, .int .i64 0, .int .i64 1] 3)) := ((Made.refl _).alloc (Nat.le_refl _) _).alloc (by simp only [World.size_alloc]; omega) _
  have HR8 := Lib.hid (HR6.out.later hm68)
  have HB8 := Lib.hid (HB6.out.later (Ext.of_made hm68))
  have hg7 : ((w6.alloc (.cells #[.pointer (some ⟨p1, 0, none⟩), .pointer (some ⟨p2, 0, none⟩)] 57)).alloc (.cells #[.int .i64 0, .int .i64 1, .int .i64 0, .int .i64 1] 3)).heap[w6.heap.size]? = some (.cells #[.pointer (some ⟨p1, 0, none⟩), .pointer (some ⟨p2, 0, none⟩)] 57 (0, 0)) := by
    rw [Below.heap_alloc _ _ _ (by simp only [World.size_alloc]; omega)]
    exact heap_alloc_new _ _
  have hg8 : ((w6.alloc (.cells #[.pointer (some ⟨p1, 0, none⟩), .pointer (some ⟨p2, 0, none⟩)] 57)).alloc (.cells #[.int .i64 0, .int .i64 1, .int .i64 0, .int .i64 1] 3)).heap[w6.heap.size + 1]? = some (.cells #[.int .i64 0, .int .i64 1, .int .i64 0, .int .i64 1] 3 (0, 0)) := by
    have := heap_alloc_new (w6.alloc (.cells #[.pointer (some ⟨p1, 0, none⟩), .pointer (some ⟨p2, 0, none⟩)] 57)) (.cells #[.int .i64 0, .int .i64 1, .int .i64 0, .int .i64 1] 3)
    rw [World.size_alloc] at this
    exact this
  have HL7 := Lib.hid (Lies.row (S := S0 a b) (o := 0) (vs := [.pointer (some ⟨p1, 0, none⟩), .pointer (some ⟨p2, 0, none⟩)]) hg7 (HR6.out.inv.new (Nat.le_refl _)) (fun i v h => by simpa using h))
  have HL8 := Lib.hid (Lies.row (S := S0 a b) (o := 0) (vs := [.int .i64 0, .int .i64 1, .int .i64 0, .int .i64 1]) hg8 (HR6.out.inv.new (by omega)) (fun i v h => by simpa using h))
  have HO8 := Lib.hid (HO6.out.later (Ext.of_made hm68))
  clear hm68 hg7 hg8 HM6 HR6 HB6 HO6
  generalize (w6.alloc (.cells #[.pointer (some ⟨p1, 0, none⟩), .pointer (some ⟨p2, 0, none⟩)] 57)).alloc (.cells #[.int .i64 0, .int .i64 1, .int .i64 0, .int .i64 1] 3) = w8 at *
  generalize w6.heap.size = g at *
  have HRN : Hid (Calls Try.prog 39 #[.slice (some ⟨g, 0, none⟩) 2 2, .slice (some ⟨g + 1, 0, none⟩) 4 4] w8 (Ran (S0 a b) 4 12 (⟨[.done, .done], ⟨4, [1], [2, 2], ()⟩⟩, 4) ⟨[p1, p2], fun _ => False, fun _ => False⟩ w8)) := by
    have h := Run_c (S := S0 a b) (m := 4) (n := 12) (M := ⟨[.load, .load], ⟨0, [0], [0, 0], ()⟩⟩) (L := ⟨[p1, p2], fun _ => False, fun _ => False⟩) (c := 2) (c' := 4) [0, 1, 0, 1] HR8.out (Lib.hid rfl) (Lib.hid rfl) (by simp) HL7.out HL8.out
    rw [run_ex] at h
    exact h
  refine HRN.out.mono ?_
  rintro e w9 ⟨rs', L', rfl, hx, hts, hr⟩
  have HR9 := Lib.hid hr
  have HT9 := Lib.hid hts
  have HB9 := Lib.hid (HB8.out.later hx)
  have HL9 := Lib.hid (HL7.out.later hx)
  have HX9 := Lib.hid hx
  clear hr hx hts HR8 HB8 HL7 HL8 HRN
  have c1 := HB9.out.cell
  have HLD : Hid (Calls Try.prog 65 #[.pointer (some ⟨a, 0, none⟩), .int .i64 0] w9 fun e w' => e = .returned (.int .u64 1) ∧ Inv (S0 a b) 11 ⟨5, [1], [2, 2], ()⟩ rs' L' w' ∧ Turned a b w9 w') := Ld_c (n := 11) HR9.out.inv 0
  go_wp2_with fail
  refine HLD.out.mono ?_
  rintro e w10 ⟨rfl, hi10, ht10⟩
  have HX10 : Hid (Ext (S0 a b) w9 L' w10 L') := Ext.of_turned (S := S0 a b) ht10
  have HR10 := Lib.hid (HR9.out.access HX10.out hi10)
  have HL10 := Lib.hid (HL9.out.later HX10.out)
  have d0 := HL10.out.at 0 rfl rfl
  have d1 := HL10.out.at 1 rfl rfl
  have HE1 := Lib.hid (Ended_c (i := 0) (t := p1) (k := .done) HR10.out (by rw [HT9.out.ts]; rfl) rfl)
  have HE2 := Lib.hid (Ended_c (i := 1) (t := p2) (k := .done) HR10.out (by rw [HT9.out.ts]; rfl) rfl)
  have HF := Lib.hid (Below.trans HM8.out (HO8.out.below (HX9.out.trans HX10.out)))
  have HE1' : Hid (Calls Try.prog 41 #[.pointer (some ⟨p1, 0, none⟩)] w10 fun e w' => e = .returned (.bool true) ∧ w10 = w') := HE1.out
  have HE2' : Hid (Calls Try.prog 41 #[.pointer (some ⟨p2, 0, none⟩)] w10 fun e w' => e = .returned (.bool true) ∧ w10 = w') := HE2.out
  clear hi10 ht10 HX10 HR10 HL10 HE1 HE2 HX9 HO8 HM8 HLD HL9 HB9 HT9 HR9 c1
  go_wp2_with fail
  refine HE1'.out.mono ?_
  rintro e w11 ⟨rfl, rfl⟩
  go_wp2_with fail
  refine HE2'.out.mono ?_
  rintro e w11 ⟨rfl, rfl⟩
  go_wp2_with fail
  go_ret
  exact ⟨rfl, HF.out⟩
end Go.Proofs.Ythllplocbciepaa.Cod.Spk7
