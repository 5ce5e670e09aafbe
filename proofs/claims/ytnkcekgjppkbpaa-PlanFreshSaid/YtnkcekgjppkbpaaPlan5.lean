/- Package plan and knellref03, walked: Power, Slots, Size, Right, Config, speaks. -/
import Derived.Test.YtnkcekgjppkbpaaPlan4
import Derived.Deep.RegionHeld3
import Derived.Deep.MidRow
namespace Go.Proofs.Ytnkcekgjppkbpaa.Plan
open Go.RowKit Go.Proofs.Ytnkcekgjppkbpaa Go.Proofs.Ytnkcekgjppkbpaa.PlanN
set_option linter.unusedVariables false
set_option linter.unusedSimpArgs false

theorem retb_of {a b : Bool} (h : a = b) : Ending.returned (.bool a) = .returned (.bool b) := by rw [h]
theorem ret_of {k : IntKind} {a b : Int} (h : a = b) : Ending.returned (.int k a) = .returned (.int k b) := by rw [h]
theorem two_mul (p : Nat) (h : p * 2 < 18446744073709551616) : IntKind.u64.wrap ((p : Int) * 2) = ((p * 2 : Nat) : Int) := by rw [IntKind.wrap_u64]; omega

set_option maxHeartbeats 400000 in
theorem Power_c (n : Nat) (h : n ≤ 63) (w : World) : Calls Try.prog 70 #[.int .i64 (n : Int)] w fun e w' => e = .returned (.int .u64 ((2 ^ n : Nat) : Int)) ∧ w = w' := by
  go_enter Try.func70, Try.ntmps70
  go_wp2
  go_loop [3, 4] (fun p i => ∃ k q : Nat, k ≤ n ∧ i = .int .i64 k ∧ p = .int .u64 q ∧ Hid (q = 2 ^ k)) (fun _ i => (n - intOf i).toNat)
  case atStart => exact ⟨0, 1, by omega, rfl, rfl, rfl⟩
  case round =>
    obtain ⟨k, q, hk, rfl, rfl, HQ⟩ := hrel
    by_cases hlt : k < n
    · have hq2 : Hid (q * 2 = 2 ^ (k + 1)) := by show _ = _; rw [HQ.out, Nat.pow_succ]
      have hb : q * 2 < 18446744073709551616 := by rw [hq2.out]; exact Nat.lt_of_le_of_lt (Nat.pow_le_pow_right (n := 2) (by decide) (show k + 1 ≤ 63 by omega)) (by decide)
      have hw := Lib.hid (two_mul q hb)
      clear hb
      go_wp2
      go_round
      case rel => exact ⟨k + 1, q * 2, by omega, by go_num, by first | rw [hw.out] | go_num, hq2⟩
      case measure => simp [intOf]; omega
    · obtain rfl : k = n := by omega
      go_wp2
      go_ret
      exact ⟨ret_of (by rw [HQ.out]; simp), rfl⟩

theorem slots_nat {xs : List Int} (h : Rgt xs) : ∃ n : Nat, xs.getD 2 0 = (n : Int) ∧ n ≤ 63 ∧ ((2 ^ n : Nat) : Int) = slots xs ∧ 2 ^ n ≤ 64 := by
  have hr := rng h
  obtain ⟨n, hn⟩ := Int.eq_ofNat_of_zero_le (show 0 ≤ xs.getD 2 0 by have := hr.b; omega)
  have hb := hr.b
  have hs := hr.s
  refine ⟨n, hn, by omega, ?_, ?_⟩
  · unfold slots; rw [hn]; simp
  · unfold slots at hs; rw [hn] at hs
    have e : ((2 ^ n : Nat) : Int) = (2 : Int) ^ ((n : Int)).toNat := by simp
    omega
theorem conv_small (p : Nat) (h : p ≤ 64) : wrap64 (p : Int) = (p : Int) := by unfold wrap64; omega

set_option maxRecDepth 100000 in
set_option maxHeartbeats 400000 in
theorem Slots_c (xs : List Int) (h : xs.length = 13) (hr : Rgt xs) (w : World) : Calls Try.prog 37 #[nums xs] w fun e w' => e = .returned (.int .i64 (slots xs)) ∧ Made w w' := by
  obtain ⟨n, hn, h63, hs, h64⟩ := slots_nat hr
  have HP := Lib.hid (Power_c n h63)
  have HA := nums_at xs h 2 (by omega)
  rw [hn] at HA
  have HS := Lib.hid hs
  have HW := Lib.hid (conv_small _ h64)
  clear hs hn hr h64
  unfold nums
  generalize (xs.map (Value.int .i64)).toArray = R at HA ⊢
  have HM : Hid (Made w (w.alloc (.cells R 23))) := (Made.refl w).alloc (Nat.le_refl _) _
  have c2 : (w.alloc (.cells R 23)).cell? ⟨w.heap.size, 2, none⟩ = some (.int .i64 (n : Int)) := by rw [cell_of_row _ _ _ _ _ _ (heap_alloc_new w _)]; exact HA
  clear HA
  go_enter Try.func37, Try.ntmps37
  go_wp2_with fail
  refine (HP.out _).mono ?_
  rintro e w' ⟨rfl, rfl⟩
  go_wp2_with fail
  go_ret
  exact ⟨ret_of (by rw [← HS.out]; first | exact HW.out | simpa using HW.out), HM.out⟩

theorem made_later {w w' w'' : World} (h : Made w w') (k : Made w' w'') : Made w w'' := Made.trans h k
theorem range_later {w w' : World} (h : Made w w') {b o : Nat} {cs : List Value} (hb : b < w.heap.size) (hr : w.rangeAt b o cs) : w'.rangeAt b o cs :=
  fun j v hj => (h.cell (p := ⟨b, o + j, none⟩) hb).trans (hr j v hj)
theorem range_row {w : World} {b : Nat} {cs : List Value} {t : TypeId} {fr : Nat × Nat} (h : w.heap[b]? = some (.cells cs.toArray t fr)) : w.rangeAt b 0 cs := by
  intro j v hj
  rw [cell_of_row _ _ _ _ _ _ h]
  simpa using hj

theorem S_start {w w0 : World} {b : Nat} {cs : List Value} (h : w0.rangeAt b 0 cs) (hl : b < w0.heap.size) (hM : Made w w0) : w0.drew.rangeAt b 0 cs ∧ b < w0.drew.heap.size ∧ Made w w0.drew := ⟨h, hl, below_drewN hM 1⟩
theorem S_made {w w1 : World} {b : Nat} {cs : List Value} (h : w1.rangeAt b 0 cs ∧ b < w1.heap.size ∧ Made w w1) : Made w w1 := h.2.2
theorem S_call {w w1 w2 : World} {b : Nat} {cs : List Value} (h : w1.rangeAt b 0 cs ∧ b < w1.heap.size ∧ Made w w1) (k : Made w1 w2) : w2.rangeAt b 0 cs ∧ b < w2.heap.size ∧ Made w w2 := ⟨range_later k h.2.1 h.1, Nat.lt_of_lt_of_le h.2.1 k.size, Made.trans h.2.2 k⟩
set_option maxRecDepth 100000 in
set_option maxHeartbeats 1000000 in
theorem RSize_c (xs : List Int) (h : xs.length = 13) (hr : Rgt xs) (w : World) : Calls Try.prog 23 #[nums xs] w fun e w' => e = .returned (.int .i64 (size xs)) ∧ Made w w' := by
  have HC := Lib.hid (Slots_c xs h hr)
  have HG := rng hr
  obtain ⟨a0, a1, a2, a3, a4, a5, a6, a7, a8, a9, a10, a11, a12, rfl⟩ := thirteen xs h
  have e1 : shard [a0, a1, a2, a3, a4, a5, a6, a7, a8, a9, a10, a11, a12] = 3 + a1 * (1 + slots [a0, a1, a2, a3, a4, a5, a6, a7, a8, a9, a10, a11, a12]) := rfl
  have e2 : nodes [a0, a1, a2, a3, a4, a5, a6, a7, a8, a9, a10, a11, a12] = 3 + a0 * shard [a0, a1, a2, a3, a4, a5, a6, a7, a8, a9, a10, a11, a12] := rfl
  have e3 : tickets [a0, a1, a2, a3, a4, a5, a6, a7, a8, a9, a10, a11, a12] = nodes [a0, a1, a2, a3, a4, a5, a6, a7, a8, a9, a10, a11, a12] + 4 * a3 := rfl
  have e4 : conns [a0, a1, a2, a3, a4, a5, a6, a7, a8, a9, a10, a11, a12] = tickets [a0, a1, a2, a3, a4, a5, a6, a7, a8, a9, a10, a11, a12] + 3 * a4 := rfl
  have e5 : size [a0, a1, a2, a3, a4, a5, a6, a7, a8, a9, a10, a11, a12] = conns [a0, a1, a2, a3, a4, a5, a6, a7, a8, a9, a10, a11, a12] + a7 := rfl
  have en : nums [a0, a1, a2, a3, a4, a5, a6, a7, a8, a9, a10, a11, a12] = .agg #[.int .i64 a0, .int .i64 a1, .int .i64 a2, .int .i64 a3, .int .i64 a4, .int .i64 a5, .int .i64 a6, .int .i64 a7, .int .i64 a8, .int .i64 a9, .int .i64 a10, .int .i64 a11, .int .i64 a12] := rfl
  rw [en] at HC ⊢
  have hs2 := HG.s
  have hsh2 := HG.sh
  have hnd2 := HG.nd
  have htk2 := HG.tk
  have hcn2 := HG.cn
  have hsz2 := HG.sz
  have b3 : 1 ≤ a3 ∧ a3 ≤ 4096 := HG.n
  have b4 : 1 ≤ a4 ∧ a4 ≤ 8192 := HG.t
  clear en
  generalize size [a0, a1, a2, a3, a4, a5, a6, a7, a8, a9, a10, a11, a12] = s6 at *
  generalize conns [a0, a1, a2, a3, a4, a5, a6, a7, a8, a9, a10, a11, a12] = s5 at *
  generalize tickets [a0, a1, a2, a3, a4, a5, a6, a7, a8, a9, a10, a11, a12] = s4 at *
  generalize nodes [a0, a1, a2, a3, a4, a5, a6, a7, a8, a9, a10, a11, a12] = s3 at *
  generalize shard [a0, a1, a2, a3, a4, a5, a6, a7, a8, a9, a10, a11, a12] = s2 at *
  generalize slots [a0, a1, a2, a3, a4, a5, a6, a7, a8, a9, a10, a11, a12] = s1 at *
  have q0 : IntKind.i64.wrap (1 + s1) = 1 + s1 := IntWalk.i64_in _ (by omega)
  have q1 : IntKind.i64.wrap (a1 * (1 + s1)) = a1 * (1 + s1) := IntWalk.i64_in _ (by omega)
  have q2 : IntKind.i64.wrap (3 + a1 * (1 + s1)) = s2 := by rw [IntWalk.i64_in _ (by omega)]; omega
  have q3 : IntKind.i64.wrap (a0 * s2) = a0 * s2 := IntWalk.i64_in _ (by omega)
  have q4 : IntKind.i64.wrap (3 + a0 * s2) = s3 := by rw [IntWalk.i64_in _ (by omega)]; omega
  have q5 : IntKind.i64.wrap (4 * a3) = 4 * a3 := IntWalk.i64_in _ (by omega)
  have q6 : IntKind.i64.wrap (s3 + 4 * a3) = s4 := by rw [IntWalk.i64_in _ (by omega)]; omega
  have q7 : IntKind.i64.wrap (3 * a4) = 3 * a4 := IntWalk.i64_in _ (by omega)
  have q8 : IntKind.i64.wrap (s4 + 3 * a4) = s5 := by rw [IntWalk.i64_in _ (by omega)]; omega
  have q9 : IntKind.i64.wrap (s5 + a7) = s6 := by rw [IntWalk.i64_in _ (by omega)]; omega
  clear e1 e2 e3 e4 e5 hs2 hsh2 hnd2 htk2 hcn2 hsz2 b3 b4 HG
  have hu : Try.prog.underlying 23 = some (.array 13 3) := Try.underlying23
  have hi : (Try.prog.info? 23).map (·.size) = some [Value.int .i64 a0, Value.int .i64 a1, Value.int .i64 a2, Value.int .i64 a3, Value.int .i64 a4, Value.int .i64 a5, Value.int .i64 a6, Value.int .i64 a7, Value.int .i64 a8, Value.int .i64 a9, Value.int .i64 a10, Value.int .i64 a11, Value.int .i64 a12].length := by kernel_rfl
  go_enter Try.func23, Try.ntmps23
  go_wp2_with fail
  obtain ⟨w0, hw0, hM, h0⟩ : ∃ w0, w.alloc (.cells #[.int .i64 a0, .int .i64 a1, .int .i64 a2, .int .i64 a3, .int .i64 a4, .int .i64 a5, .int .i64 a6, .int .i64 a7, .int .i64 a8, .int .i64 a9, .int .i64 a10, .int .i64 a11, .int .i64 a12] 23) = w0 ∧ Made w w0 ∧ w0.heap[w.heap.size]? = some (.cells #[.int .i64 a0, .int .i64 a1, .int .i64 a2, .int .i64 a3, .int .i64 a4, .int .i64 a5, .int .i64 a6, .int .i64 a7, .int .i64 a8, .int .i64 a9, .int .i64 a10, .int .i64 a11, .int .i64 a12] 23 (0, 0)) := ⟨_, rfl, (Made.refl w).alloc (Nat.le_refl _) _, heap_alloc_new _ _⟩
  rw [hw0]
  clear hw0
  have hlt := (Array.getElem?_eq_some_iff.1 h0).1
  have R0 : w0.rangeAt w.heap.size 0 [Value.int .i64 a0, Value.int .i64 a1, Value.int .i64 a2, Value.int .i64 a3, Value.int .i64 a4, Value.int .i64 a5, Value.int .i64 a6, Value.int .i64 a7, Value.int .i64 a8, Value.int .i64 a9, Value.int .i64 a10, Value.int .i64 a11, Value.int .i64 a12] := range_row h0
  clear h0
  have k0 : ∀ w' : World, w'.rangeAt w.heap.size 0 [Value.int .i64 a0, Value.int .i64 a1, Value.int .i64 a2, Value.int .i64 a3, Value.int .i64 a4, Value.int .i64 a5, Value.int .i64 a6, Value.int .i64 a7, Value.int .i64 a8, Value.int .i64 a9, Value.int .i64 a10, Value.int .i64 a11, Value.int .i64 a12] → w'.cell? ⟨w.heap.size, 0, none⟩ = some (.int .i64 a0) := fun w' h => h 0 _ rfl
  have k1 : ∀ w' : World, w'.rangeAt w.heap.size 0 [Value.int .i64 a0, Value.int .i64 a1, Value.int .i64 a2, Value.int .i64 a3, Value.int .i64 a4, Value.int .i64 a5, Value.int .i64 a6, Value.int .i64 a7, Value.int .i64 a8, Value.int .i64 a9, Value.int .i64 a10, Value.int .i64 a11, Value.int .i64 a12] → w'.cell? ⟨w.heap.size, 1, none⟩ = some (.int .i64 a1) := fun w' h => h 1 _ rfl
  have k3 : ∀ w' : World, w'.rangeAt w.heap.size 0 [Value.int .i64 a0, Value.int .i64 a1, Value.int .i64 a2, Value.int .i64 a3, Value.int .i64 a4, Value.int .i64 a5, Value.int .i64 a6, Value.int .i64 a7, Value.int .i64 a8, Value.int .i64 a9, Value.int .i64 a10, Value.int .i64 a11, Value.int .i64 a12] → w'.cell? ⟨w.heap.size, 3, none⟩ = some (.int .i64 a3) := fun w' h => h 3 _ rfl
  have k4 : ∀ w' : World, w'.rangeAt w.heap.size 0 [Value.int .i64 a0, Value.int .i64 a1, Value.int .i64 a2, Value.int .i64 a3, Value.int .i64 a4, Value.int .i64 a5, Value.int .i64 a6, Value.int .i64 a7, Value.int .i64 a8, Value.int .i64 a9, Value.int .i64 a10, Value.int .i64 a11, Value.int .i64 a12] → w'.cell? ⟨w.heap.size, 4, none⟩ = some (.int .i64 a4) := fun w' h => h 4 _ rfl
  have k7 : ∀ w' : World, w'.rangeAt w.heap.size 0 [Value.int .i64 a0, Value.int .i64 a1, Value.int .i64 a2, Value.int .i64 a3, Value.int .i64 a4, Value.int .i64 a5, Value.int .i64 a6, Value.int .i64 a7, Value.int .i64 a8, Value.int .i64 a9, Value.int .i64 a10, Value.int .i64 a11, Value.int .i64 a12] → w'.cell? ⟨w.heap.size, 7, none⟩ = some (.int .i64 a7) := fun w' h => h 7 _ rfl
  go_region_held3 (fun w' => w'.rangeAt w.heap.size 0 [Value.int .i64 a0, Value.int .i64 a1, Value.int .i64 a2, Value.int .i64 a3, Value.int .i64 a4, Value.int .i64 a5, Value.int .i64 a6, Value.int .i64 a7, Value.int .i64 a8, Value.int .i64 a9, Value.int .i64 a10, Value.int .i64 a11, Value.int .i64 a12] ∧ w.heap.size < w'.heap.size ∧ Made w w') (first | exact S_start (by assumption) (by assumption) (by assumption) | exact S_call (by assumption) (by assumption)) (first | (go_at_call 37; refine (HC.out _).mono ?_; rintro e w' ⟨rfl, hMd⟩))
  go_wp2_with fail
  go_ret
  exact ⟨rfl, S_made (by assumption)⟩

set_option maxRecDepth 100000 in
set_option maxHeartbeats 400000 in
theorem Right_c (xs : List Int) (h : xs.length = 13) (b : Bool) (hb : b = decide ((chk xs).2 = 0)) (w : World) : Calls Try.prog 14 #[nums xs] w fun e w' => e = .returned (.bool b) ∧ Made w w' := by
  have HC := Lib.hid (RCheck_c xs h)
  have HZ := Lib.hid (show (Try.prog.info? 23).map (·.size) = some 13 by kernel_rfl)
  have HR : Hid ((xs.map (Value.int .i64)).toArray.size = 13) := by show _ = _; simp [h]
  unfold nums at HC ⊢
  generalize (xs.map (Value.int .i64)).toArray = R at HC HR ⊢
  generalize (chk xs).2 = k at HC hb ⊢
  generalize (chk xs).1 = at_ at HC
  subst hb
  go_enter Try.func14, Try.ntmps14
  go_wp2_with (first | (refine wpList_load_row rfl 23 (.tmp 1) rfl w.heap.size (by simp [Act.eval, Act.put]) 23 R (0, 0) _ (heap_alloc_new _ _) Try.underlying23 rfl (by rw [HR.out]; exact HZ.out) ?_))
  refine (HC.out _).mono ?_
  rintro e w1 ⟨rfl, hM⟩
  go_wp2_with fail
  go_ret
  exact ⟨retb_of (by by_cases hk : k = 0 <;> simp [hk]), Made.trans ((Made.refl w).alloc (Nat.le_refl _) _) hM⟩

set_option maxRecDepth 100000 in
set_option maxHeartbeats 400000 in
theorem Size_c {xs : List Int} {p : Nat} {w : World} (hp : IsPlan w p xs) (h : xs.length = 13) (hr : Rgt xs) : Calls Try.prog 22 #[.pointer (some ⟨p, 0, none⟩)] w fun e w' => e = .returned (.int .i64 (size xs)) ∧ ∃ n, w' = w.drewN n := by
  have HG := rng hr
  obtain ⟨a0, a1, a2, a3, a4, a5, a6, a7, a8, a9, a10, a11, a12, rfl⟩ := thirteen xs h
  have e5 : size [a0, a1, a2, a3, a4, a5, a6, a7, a8, a9, a10, a11, a12] = conns [a0, a1, a2, a3, a4, a5, a6, a7, a8, a9, a10, a11, a12] + a7 := rfl
  have hsz2 := HG.sz
  have c7 : w.cell? ⟨p, 7, none⟩ = some (.int .i64 a7) := cell_of_row _ _ _ _ _ _ hp
  have c17 : w.cell? ⟨p, 17, none⟩ = some (.int .i64 (conns [a0, a1, a2, a3, a4, a5, a6, a7, a8, a9, a10, a11, a12])) := cell_of_row _ _ _ _ _ _ hp
  generalize size [a0, a1, a2, a3, a4, a5, a6, a7, a8, a9, a10, a11, a12] = s6 at *
  generalize conns [a0, a1, a2, a3, a4, a5, a6, a7, a8, a9, a10, a11, a12] = s5 at *
  have q9 : wrap64 (s5 + a7) = s6 := by rw [IntWalk.wrap64_in _ (by omega)]; omega
  have Q9 := Lib.hid q9
  clear HG hsz2 e5 hp hr q9
  go_enter Try.func22, Try.ntmps22
  go_wp2_with fail
  go_quiet (fail)
  go_wp2_with fail
  go_ret
  exact ⟨ret_of Q9.out, _, rfl⟩

theorem al_cfg (w : World) : (Instr.alloc 28 true (.tuple #[])).run Try.prog w = .ok (.pointer (some ⟨w.heap.size, 0, none⟩)) (w.alloc (.cells Z13 28)) := by kernel_rfl
theorem plan_cfg {xs : List Int} {p : Nat} {w : World} (hp : IsPlan w p xs) (h : xs.length = 13) (j : Nat) (hj : j < 13) : w.cell? ⟨p, j, none⟩ = some (.int .i64 (xs.getD j 0)) := by
  rw [cell_of_row _ _ _ _ _ _ hp]
  unfold planRow
  rw [List.getElem?_toArray, List.getElem?_map, List.getElem?_append_left (by omega), List.getElem?_eq_getElem (by omega)]
  simp [List.getElem?_eq_getElem (show j < xs.length by omega)]

set_option maxRecDepth 100000 in
set_option maxHeartbeats 1000000 in
theorem Config_c {xs : List Int} {p : Nat} {w : World} (hp : IsPlan w p xs) (h : xs.length = 13) : Calls Try.prog 21 #[.pointer (some ⟨p, 0, none⟩)] w fun e w' => e = .returned (nums xs) ∧ Made w w' := by
  have hg := plan_cfg hp h
  have hlt : p < w.heap.size := (Array.getElem?_eq_some_iff.1 hp).1
  have HZ := Lib.hid (show (Try.prog.info? 28).map (·.size) = some 13 by kernel_rfl)
  obtain ⟨a0, a1, a2, a3, a4, a5, a6, a7, a8, a9, a10, a11, a12, rfl⟩ := thirteen xs h
  have en : nums [a0, a1, a2, a3, a4, a5, a6, a7, a8, a9, a10, a11, a12] = .agg #[.int .i64 a0, .int .i64 a1, .int .i64 a2, .int .i64 a3, .int .i64 a4, .int .i64 a5, .int .i64 a6, .int .i64 a7, .int .i64 a8, .int .i64 a9, .int .i64 a10, .int .i64 a11, .int .i64 a12] := rfl
  rw [en]
  clear en
  have g0 : w.cell? ⟨p, 0, none⟩ = some (.int .i64 a0) := hg 0 (by omega)
  have g1 : w.cell? ⟨p, 1, none⟩ = some (.int .i64 a1) := hg 1 (by omega)
  have g2 : w.cell? ⟨p, 2, none⟩ = some (.int .i64 a2) := hg 2 (by omega)
  have g3 : w.cell? ⟨p, 3, none⟩ = some (.int .i64 a3) := hg 3 (by omega)
  have g4 : w.cell? ⟨p, 4, none⟩ = some (.int .i64 a4) := hg 4 (by omega)
  have g5 : w.cell? ⟨p, 5, none⟩ = some (.int .i64 a5) := hg 5 (by omega)
  have g6 : w.cell? ⟨p, 6, none⟩ = some (.int .i64 a6) := hg 6 (by omega)
  have g7 : w.cell? ⟨p, 7, none⟩ = some (.int .i64 a7) := hg 7 (by omega)
  have g8 : w.cell? ⟨p, 8, none⟩ = some (.int .i64 a8) := hg 8 (by omega)
  have g9 : w.cell? ⟨p, 9, none⟩ = some (.int .i64 a9) := hg 9 (by omega)
  have g10 : w.cell? ⟨p, 10, none⟩ = some (.int .i64 a10) := hg 10 (by omega)
  have g11 : w.cell? ⟨p, 11, none⟩ = some (.int .i64 a11) := hg 11 (by omega)
  have g12 : w.cell? ⟨p, 12, none⟩ = some (.int .i64 a12) := hg 12 (by omega)
  clear hg hp h
  go_enter Try.func21, Try.ntmps21
  go_wp2_with (first | (refine wpList_alloc_zero rfl 28 rfl Z13 al_cfg ?_) | (refine wpList_store_row rfl 28 (.tmp 2) (.tmp 6) rfl w.heap.size #[.int .i64 a0, .int .i64 a1, .int .i64 a2, .int .i64 a3, .int .i64 a4, .int .i64 a5, .int .i64 a6, .int .i64 a7, .int .i64 a8, .int .i64 a9, .int .i64 a10, .int .i64 a11, .int .i64 a12] (by simp [Act.eval, Act.put]) (by simp [Act.eval, Act.put]) 28 Z13 (heap_alloc_new _ _) HZ.out rfl (one13 _ _ _ _ _ _ _ _ _ _ _ _ _) ?_))
  refine bodyPost_ret (v := .agg #[.int .i64 a0, .int .i64 a1, .int .i64 a2, .int .i64 a3, .int .i64 a4, .int .i64 a5, .int .i64 a6, .int .i64 a7, .int .i64 a8, .int .i64 a9, .int .i64 a10, .int .i64 a11, .int .i64 a12]) (results_cell_row rfl _ _ w.heap.size 28 #[.int .i64 a0, .int .i64 a1, .int .i64 a2, .int .i64 a3, .int .i64 a4, .int .i64 a5, .int .i64 a6, .int .i64 a7, .int .i64 a8, .int .i64 a9, .int .i64 a10, .int .i64 a11, .int .i64 a12] (0, 0) _ (by simp [Act.put]) (heap_setRow_same _ _ _ _ _ _ (heap_alloc_new _ _)) Try.underlying28 rfl HZ.out) rfl ⟨rfl, ?_⟩
  exact Below.setRow ((Made.refl w).alloc (Nat.le_refl _) _) (Nat.le_refl _) _
end Go.Proofs.Ytnkcekgjppkbpaa.Plan
