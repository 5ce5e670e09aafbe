/- Package plan, walked: Fresh. -/
import Derived.Test.YtnkcekgjppkbpaaFresh2
import Derived.Deep.DeepCutAuto
import Derived.Shelf.Abstract
namespace Go.Proofs.Ytnkcekgjppkbpaa.Fresh
open Go.RowKit Go.Proofs.Ytnkcekgjppkbpaa Go.Proofs.Ytnkcekgjppkbpaa.Cell Go.Proofs.Ytnkcekgjppkbpaa.Wd Go.Proofs.Ytnkcekgjppkbpaa.Plan Go.Proofs.Ytnkcekgjppkbpaa.PlanN
set_option linter.unusedVariables false
set_option linter.unusedSimpArgs false

theorem isplan_made {w w' : World} {p : Nat} {xs : List Int} (h : IsPlan w p xs) (m : Made w w') : IsPlan w' p xs := (m.block _ (Array.getElem?_eq_some_iff.1 h).1).trans h
theorem isplan_but {w w' : World} {p g : Nat} {xs : List Int} (h : IsPlan w p xs) (m : But g w w') (hne : p ≠ g) : IsPlan w' p xs := m.at hne h
theorem link_n {xs : List Int} {p bx g Z N : Nat} {wr : World} {zs : List Int} (hA : Arr wr bx g zs) (hp : IsPlan wr p xs) (hne : p ≠ g) (h : xs.length = 13) (hr : Rgt xs) (hZ : Z = zs.length) (hZ1 : 3 ≤ Z) (hZ2 : Z ≤ 20000) (hN1 : 1 ≤ N) (hN2 : N ≤ 20000) (ln : Nat → Nat) (hln : ∀ k, k < N → nodeI xs (k : Int) 3 = (ln k : Int) ∧ ln k < Z) :
    Calls Try.prog 77 #[.int .i64 1, .int .i64 (N : Int), .func (.func 46) #[.pointer (some ⟨p, 0, none⟩)] #[], .pointer (some ⟨bx, 0, none⟩)] wr fun e w' => (∃ r, e = .returned r) ∧ Arr w' bx g (chain (zs.set 1 1) ln N) ∧ But g wr w' := by
  refine link_c p zs bx g 1 N Z hZ (by omega) hN1 (by omega) (by omega) wr hA ln (fun j hj => (hln j (by omega)).2) (fun k w' h1 h2 hb => ?_)
  have e : ((k : Int) - 1) = ((k - 1 : Nat) : Int) := by omega
  rw [e, ← (hln (k - 1) (by omega)).1]
  exact (NodeLink_c (isplan_but hp hb hne) h hr _).mono fun e w'' ⟨h1, n, h2⟩ => ⟨h1, by rw [h2]; exact Made.drewN _ n⟩
theorem link_tt {xs : List Int} {p bx g Z N : Nat} {wr : World} {zs : List Int} (hA : Arr wr bx g zs) (hp : IsPlan wr p xs) (hne : p ≠ g) (h : xs.length = 13) (hr : Rgt xs) (hZ : Z = zs.length) (hZ1 : 3 ≤ Z) (hZ2 : Z ≤ 20000) (hN1 : 1 ≤ N) (hN2 : N ≤ 20000) (ln : Nat → Nat) (hln : ∀ k, k < N → ticketI xs (k : Int) 2 = (ln k : Int) ∧ ln k < Z) :
    Calls Try.prog 77 #[.int .i64 2, .int .i64 (N : Int), .func (.func 49) #[.pointer (some ⟨p, 0, none⟩)] #[], .pointer (some ⟨bx, 0, none⟩)] wr fun e w' => (∃ r, e = .returned r) ∧ Arr w' bx g (chain (zs.set 2 1) ln N) ∧ But g wr w' := by
  refine link_t p zs bx g 2 N Z hZ (by omega) hN1 (by omega) (by omega) wr hA ln (fun j hj => (hln j (by omega)).2) (fun k w' h1 h2 hb => ?_)
  have e : ((k : Int) - 1) = ((k - 1 : Nat) : Int) := by omega
  rw [e, ← (hln (k - 1) (by omega)).1]
  exact (TicketLink_c (isplan_but hp hb hne) h hr _).mono fun e w'' ⟨h1, n, h2⟩ => ⟨h1, by rw [h2]; exact Made.drewN _ n⟩
theorem But.below {g B : Nat} {w w' : World} (h : But g w w') (hB : B ≤ w.heap.size) (hg : B ≤ g) : Below B w w' := ⟨h.os, h.tape, h.output, h.size, fun k hk => h.block k (by omega) (by omega)⟩
/-- The states' words laid one by one. -/
def states (ys : List Int) (st : Nat → Nat) (v : Int) : Nat → List Int
  | 0 => ys
  | k + 1 => (states ys st v k).set (st k) v
theorem states_len (ys : List Int) (st : Nat → Nat) (v : Int) : ∀ k, (states ys st v k).length = ys.length
  | 0 => rfl
  | k + 1 => by rw [states, List.length_set]; exact states_len ys st v k
theorem arr_start {w : World} {Z : Nat} : Arr ((w.alloc (.cells (row (List.replicate Z 0)) 43)).alloc (.cells #[.slice (some ⟨w.heap.size, 0, none⟩) Z Z] 44)) (w.heap.size + 1) w.heap.size (List.replicate Z 0) := by
  refine ⟨?_, ?_, by omega⟩
  · rw [List.length_replicate]
    have := heap_alloc_new (w.alloc (.cells (row (List.replicate Z 0)) 43)) (.cells #[.slice (some ⟨w.heap.size, 0, none⟩) Z Z] 44)
    rw [World.size_alloc] at this
    exact this
  · rw [heap_alloc_old _ _ (by rw [World.size_alloc]; omega)]
    exact heap_alloc_new _ _
set_option maxRecDepth 100000 in
set_option maxHeartbeats 4000000 in
theorem Fresh_c {xs : List Int} {p : Nat} {w : World} (hp : IsPlan w p xs) (h : xs.length = 13) (hr : Rgt xs) (Z N T : Nat) (hZ : size xs = (Z : Int)) (hN : xs.getD 3 0 = (N : Int)) (hT : xs.getD 4 0 = (T : Int)) (hZ1 : 3 ≤ Z) (hZ2 : Z ≤ 20000) (hN1 : 1 ≤ N) (hT1 : 1 ≤ T) (hN2 : N ≤ 20000) (hT2 : T ≤ 20000)
    (ln lt st : Nat → Nat) (hln : ∀ k, k < N → nodeI xs (k : Int) 3 = (ln k : Int) ∧ ln k < Z) (hlt : ∀ k, k < T → ticketI xs (k : Int) 2 = (lt k : Int) ∧ lt k < Z) (hst : ∀ k, k < N → nodeI xs (k : Int) 0 = (st k : Int) ∧ st k < Z) (hF : I64 (xs.getD 6 0)) (v : Nat) (hv : (packed [(32, xs.getD 6 0), (30, 0), (2, 0)]).1 = v) :
    Calls Try.prog 55 #[.pointer (some ⟨p, 0, none⟩)] w fun e w' => ∃ a b, e = .returned (.pointer (some ⟨a, 0, none⟩)) ∧
      Arena w' a b 0 (states (chain ((chain ((List.replicate Z 0).set 1 1) ln N).set 2 1) lt T) st v N) ∧ w.heap.size ≤ a ∧ w.heap.size ≤ b ∧ Made w w' := by
  have HSZ : Hid (∀ w' : World, Made w w' → Calls Try.prog 22 #[.pointer (some ⟨p, 0, none⟩)] w' fun e w'' => e = .returned (.int .i64 (Z : Int)) ∧ ∃ n, w'' = w'.drewN n) := fun w' m => by
    have := Size_c (isplan_made hp m) h hr
    rw [hZ] at this
    exact this
  have hmk : ∀ w : World, (Instr.makeSlice 44 (.int .i64 (Z : Int)) (.int .i64 (Z : Int))).run Try.prog w = .ok (.slice (some ⟨w.heap.size, 0, none⟩) Z Z) (w.alloc (.cells (row (List.replicate Z 0)) 43)) := fun w => make_run64 Z (by omega) w
  go_enter Try.func55, Try.ntmps55
  go_wp2_with fail
  refine (HSZ.out _ (Made.refl _)).mono ?_
  rintro e w1 ⟨rfl, q, hq⟩
  subst hq
  have HAR : Hid (Arr (((w.drewN q).alloc (.cells (row (List.replicate Z 0)) 43)).alloc (.cells #[.slice (some ⟨w.heap.size, 0, none⟩) Z Z] 44)) (w.heap.size + 1) w.heap.size (List.replicate Z 0)) := arr_start (w := w.drewN q)
  have HMD : Hid (Made w (((w.drewN q).alloc (.cells (row (List.replicate Z 0)) 43)).alloc (.cells #[.slice (some ⟨w.heap.size, 0, none⟩) Z Z] 44))) := by
    have h1 : Made w (w.drewN q) := Made.drewN w q
    have h2 := h1.alloc h1.size (.cells (row (List.replicate Z 0)) 43)
    exact h2.alloc h2.size _
  have hpl := (Array.getElem?_eq_some_iff.1 hp).1
  have HP := Lib.hid (isplan_made hp HMD.out)
  have hne : p ≠ w.heap.size := by omega
  go_upto_region 3 with fail
  generalize hW : ((w.drewN q).alloc (.cells (row (List.replicate Z 0)) 43)).alloc (.cells #[.slice (some ⟨w.heap.size, 0, none⟩) Z Z] 44) = wr at HAR HMD HP ⊢
  have hgs : w.heap.size ≤ wr.heap.size := HMD.out.size
  have HBL : Hid (Below w.heap.size w wr) := HMD.out
  have hbx : w.heap.size + 1 = w.heap.size + 1 := rfl
  clear hW hbx HMD HSZ hmk hpl hp
  have hmf : ∀ (fn : Fn) (first cap : Array Value) (w : World), (Instr.makeFunc fn first cap).run Try.prog w = .ok (.func fn first cap) w := fun _ _ _ _ => rfl
  have c3 : wr.cell? ⟨p, 3, none⟩ = some (.int .i64 (N : Int)) := by rw [← hN]; exact plan_cfg HP.out h 3 (by omega)
  have HKp : Hid (∀ w' : World, But w.heap.size wr w' → w'.cell? ⟨p, 3, none⟩ = some (.int .i64 (N : Int)) ∧ But w.heap.size wr w') := fun w' m => ⟨by rw [← hN]; exact plan_cfg (isplan_but HP.out m hne) h 3 (by omega), m⟩
  have hMD : Made wr wr.drew := Made.drewN wr 1
  have HCL := Lib.hid (link_n (HAR.out.later hMD) (isplan_made HP.out hMD) hne h hr (by rw [List.length_replicate]) hZ1 hZ2 hN1 hN2 ln hln)
  have hMd0 : But w.heap.size wr wr.drew := But.of_made (Made.drewN wr 1)
  clear hMD
  go_cut [4] (fun s4 wx => s4 = .func (.func 77) #[] #[.pointer (some ⟨w.heap.size + 1, 0, none⟩)] ∧ Hid (Arr wx (w.heap.size + 1) w.heap.size (chain ((List.replicate Z 0).set 1 1) ln N)) ∧ Hid (But w.heap.size wr wx))
  case first =>
    go_region_held3 (fun w' => w'.cell? ⟨p, 3, none⟩ = some (.int .i64 (N : Int)) ∧ But w.heap.size wr w') (exact HKp.out _ (by assumption)) (first | (go_at_call 58; refine (Nodes_c _ _).mono ?_; rintro e w' ⟨rfl, rfl⟩) | (go_at_call 77; refine HCL.out.mono ?_; rintro e w3 ⟨⟨r, rfl⟩, hA3, hB3⟩; have hb3 := hMd0.trans hB3; clear hMd0))
    all_goals
      go_wp2_with fail
      go_meet
      exact ⟨rfl, hA3, hb3⟩
  case rest =>
    obtain ⟨rfl, HA3, HB3⟩ := hcut
    have HP3 := Lib.hid (isplan_but HP.out HB3.out hne)
    have hl1 : (chain ((List.replicate Z 0).set 1 1) ln N).length = Z := by rw [chain_len, List.length_set, List.length_replicate]
    obtain ⟨zs1, hz1⟩ : ∃ z, z = chain ((List.replicate Z 0).set 1 1) ln N := ⟨_, rfl⟩
    rw [← hz1] at HA3 hl1
    have HZ1 := Lib.hid hz1
    clear hz1
    have HBL3 : Hid (Below w.heap.size w wc) := Below.trans HBL.out (HB3.out.below hgs (Nat.le_refl _))
    have hgs3 : w.heap.size ≤ wc.heap.size := HBL3.out.size
    clear HCL HKp hMd0 c3 HAR HP HBL HB3 hgs
    have hMD : Made wc wc.drew := Made.drewN wc 1
    have c4 : wc.cell? ⟨p, 4, none⟩ = some (.int .i64 (T : Int)) := by rw [← hT]; exact plan_cfg HP3.out h 4 (by omega)
    have HKq : Hid (∀ w' : World, But w.heap.size wc w' → w'.cell? ⟨p, 4, none⟩ = some (.int .i64 (T : Int)) ∧ But w.heap.size wc w') := fun w' m => ⟨by rw [← hT]; exact plan_cfg (isplan_but HP3.out m hne) h 4 (by omega), m⟩
    have HCM := Lib.hid (link_tt (HA3.out.later hMD) (isplan_made HP3.out hMD) hne h hr hl1.symm hZ1 hZ2 hT1 hT2 lt hlt)
    have hMd1 : But w.heap.size wc wc.drew := But.of_made (Made.drewN wc 1)
    clear hMD
    go_upto_region 4 with fail
    go_cut [4] (fun s4 wx => True ∧ Hid (Arr wx (w.heap.size + 1) w.heap.size (chain (zs1.set 2 1) lt T)) ∧ Hid (But w.heap.size wc wx))
    case first =>
      go_region_held3 (fun w' => w'.cell? ⟨p, 4, none⟩ = some (.int .i64 (T : Int)) ∧ But w.heap.size wc w') (exact HKq.out _ (by assumption)) (first | (go_at_call 59; refine (Tickets_c _ _).mono ?_; rintro e w' ⟨rfl, rfl⟩) | (go_at_call 77; refine HCM.out.mono ?_; rintro e w5 ⟨⟨r, rfl⟩, hA5, hB5⟩; have hb5 := hMd1.trans hB5; clear hMd1))
      all_goals
        go_wp2_with fail
        go_meet
        exact ⟨trivial, hA5, hb5⟩
    case rest =>
      obtain ⟨_, HA5, HB5⟩ := hcut
      have HP5 := Lib.hid (isplan_but HP3.out HB5.out hne)
      have HZL : Hid ((chain (zs1.set 2 1) lt T).length = Z) := by show _ = _; rw [chain_len, List.length_set]; exact hl1
      obtain ⟨zs2, hz2⟩ : ∃ z, z = chain (zs1.set 2 1) lt T := ⟨_, rfl⟩
      rw [← hz2] at HA5 HZL
      have HZ2 := Lib.hid hz2
      clear hz2
      have HBL5 : Hid (Below w.heap.size w wc) := Below.trans HBL3.out (HB5.out.below hgs3 (Nat.le_refl _))
      have HV := Lib.hid hv
      clear HCM HKq hMd1 c4 HA3 HP3 HBL3 HB5 hl1 hgs3 hv
      have c3 : wc.cell? ⟨p, 3, none⟩ = some (.int .i64 (N : Int)) := by rw [← hN]; exact plan_cfg HP5.out h 3 (by omega)
      go_wp2_with fail
      go_loopw [39] (fun iv wr => ∃ k : Nat, k ≤ N ∧ iv = .int .i64 k ∧ Hid (Arr wr (w.heap.size + 1) w.heap.size (states zs2 st v k)) ∧ Hid (But w.heap.size wc wr)) (fun iv _ => (N - intOf iv).toNat)
      case atStart => exact ⟨0, by omega, rfl, HA5, But.of_made (Made.refl _)⟩
      case round =>
        obtain ⟨k, hk, rfl, HAr, HBr⟩ := hrel
        by_cases hkN : k < N
        · obtain ⟨F, hF6⟩ : ∃ F, xs.getD 6 0 = F := ⟨_, rfl⟩
          have HSW : Hid (∃ r : Int, ∀ w3 : World, Calls Try.prog 79 #[.agg #[.int .i64 F, .int .i64 0, .int .i64 0]] w3 fun e w' => e = .returned (.tuple #[.int .u64 (v : Int), .int .i64 r]) ∧ Made w3 w') := ⟨_, fun w3 => by
            have hh := StateWord_c F 0 0 (hF6 ▸ hF) i64_zero i64_zero w3
            have e := HV.out
            rw [hF6] at e
            rw [e] at hh
            exact hh⟩
          obtain ⟨rr, HSX⟩ := HSW.out
          have HSX := Lib.hid HSX
          obtain ⟨hs1, hs2⟩ := hst k hkN
          have HSTs : Hid (∀ w3 : World, Made wr w3 → Calls Try.prog 43 #[.pointer (some ⟨p, 0, none⟩), .int .i64 (k : Int)] w3 fun e w' => e = .returned (.int .i64 (st k : Int)) ∧ Made w3 w') := fun w3 m => by
            have hh := State_c (isplan_made (isplan_but HP5.out HBr.out hne) m) h hr (k : Int)
            rw [hs1] at hh
            exact hh.mono fun e w'' ⟨h1, n, h2⟩ => ⟨h1, by rw [h2]; exact Made.drewN _ n⟩
          obtain ⟨ys, hys⟩ : ∃ ys, ys = states zs2 st (v : Int) k := ⟨_, rfl⟩
          have hyl : ys.length = Z := by rw [hys, states_len]; exact HZL.out
          have hnext : Hid (ys.set (st k) (v : Int) = states zs2 st (v : Int) (k + 1)) := by show _ = _; rw [states, hys]
          rw [← hys] at HAr
          generalize st k = s at hnext HSTs hs2
          have hql : s < ys.length := by omega
          have HKp : Hid (∀ w' : World, But w.heap.size wr w' → w'.cell? ⟨w.heap.size + 1, 0, none⟩ = some (.slice (some ⟨w.heap.size, 0, none⟩) Z Z) ∧ w'.cell? ⟨p, 6, none⟩ = some (.int .i64 F) ∧ But w.heap.size wr w') := fun w' m =>
            ⟨by rw [cell_of_row _ _ _ _ _ _ (m.at HAr.out.ne HAr.out.box), hyl]; rfl, by rw [← hF6]; exact plan_cfg (isplan_but (isplan_but HP5.out HBr.out hne) m hne) h 6 (by omega), m⟩
          have hMd0 : Made wr wr.drew := Made.drewN wr 1
          have hMb0 : But w.heap.size wr wr.drew := But.of_made hMd0
          obtain ⟨was, hwas⟩ : ∃ v, v = ys[s] := ⟨_, rfl⟩
          have HM0 : Hid (∀ w3 : World, Made wr w3 → But w.heap.size wr w3 ∧ But w.heap.size wr (w3.setCell ⟨w.heap.size, s, none⟩ (.int .u64 (v : Int))) ∧ w3.cell? ⟨w.heap.size, s, none⟩ = some (.int .u64 was) ∧ w3.frozen? ⟨w.heap.size, s, none⟩ = false ∧ Arr (w3.setCell ⟨w.heap.size, s, none⟩ (.int .u64 (v : Int))) (w.heap.size + 1) w.heap.size (ys.set s (v : Int))) := fun w3 m => by
            have b3 : But w.heap.size wr w3 := But.of_made m
            exact ⟨b3, b3.set _ _, (m.cell (Array.getElem?_eq_some_iff.1 HAr.out.row).1).trans (by rw [cell_of_row _ _ _ _ _ _ HAr.out.row, hwas]; exact row_at' hql), frozen_of_row _ _ _ _ _ (HAr.out.later m).row, (HAr.out.later m).put s _⟩
          clear hwas hys hyl hs1 HSW HP5 HA5 HBL5 HV c3 HAr hF6 hln hlt hst hN hT hZ hr h HZL
          have q1 : (s : Int) < (Z : Int) := by omega
          have kk : (k : Int) < (N : Int) := by omega
          go_wp2_with fail
          go_region_held3 (fun w' => w'.cell? ⟨w.heap.size + 1, 0, none⟩ = some (.slice (some ⟨w.heap.size, 0, none⟩) Z Z) ∧ w'.cell? ⟨p, 6, none⟩ = some (.int .i64 F) ∧ But w.heap.size wr w') (exact HKp.out _ (by assumption)) (first | (go_at_call 43; refine (HSTs.out _ (by assumption)).mono ?_; rintro e w3 ⟨rfl, hM3⟩; have hM4 := Made.trans (by assumption : Made wr _) hM3; obtain ⟨hb3, hb5, c3, z3, hA5⟩ := HM0.out w3 hM4; clear hM3 HSTs) | (go_at_call 79; refine (HSX.out _).mono ?_; rintro e w3 ⟨rfl, hM3⟩; have hM4 := Made.trans (by assumption : Made wr _) hM3; obtain ⟨hb3, hb5, c3, z3, hA5⟩ := HM0.out w3 hM4; clear hM3 HSX))
          all_goals
            go_wp2_with fail
            go_roundw
            case rel => exact ⟨k + 1, by omega, by go_num, by show Arr _ _ _ _; rw [← hnext.out]; exact hA5, HBr.out.trans hb5⟩
            case measure => simp [intOf]; omega
        · obtain rfl : N = k := by omega
          obtain ⟨ys, hys⟩ : ∃ ys, ys = states zs2 st (v : Int) N := ⟨_, rfl⟩
          have hyl : Hid (Z = ys.length) := by show _ = _; rw [hys, states_len]; exact HZL.out.symm
          rw [← hys] at HAr
          have HYS := Lib.hid hys
          have HBLr : Hid (Below w.heap.size w wr) := Below.trans HBL5.out (HBr.out.below HBL5.out.size (Nat.le_refl _))
          have hsz : w.heap.size ≤ wr.heap.size := HBLr.out.size
          have cb : wr.cell? ⟨w.heap.size + 1, 0, none⟩ = some (.slice (some ⟨w.heap.size, 0, none⟩) Z Z) := by rw [cell_of_row _ _ _ _ _ _ HAr.out.box, ← hyl.out]; rfl
          have HOF := Lib.hid (Of_c (w := wr) ys (some ⟨w.heap.size, 0, none⟩) Z Z hyl (by omega) (by omega) (Rd.row HAr.out.row (fun i hi => row_at' hi) (Array.getElem?_eq_some_iff.1 HAr.out.row).1))
          clear HAr HBr HP5 HA5 HV c3 hln hlt hst hN hT hZ hr h HZL HBL5 hys
          go_wp2_with fail
          refine HOF.out.mono ?_
          rintro e w6 ⟨rfl, hA6, hz6, hM6⟩
          go_wp2_with fail
          go_ret
          exact ⟨_, _, rfl, by rw [HYS.out, HZ2.out, HZ1.out] at hA6; exact hA6, by omega, hsz, Below.trans HBLr.out (Below.mono hM6 hsz)⟩
end Go.Proofs.Ytnkcekgjppkbpaa.Fresh
