/- Package digit, walked: each function's answer in plain numbers (Num); nothing in memory turns. -/
import Derived.Test.YtndpkonihcebeaaBase
import Derived.Test.YtndpkonihcebeaaNum
namespace Go.Proofs.Ytndpkonihcebeaa.Dig
open Go.RowKit Go.Proofs.Ytndpkonihcebeaa Go.Proofs.Ytndpkonihcebeaa.Num
set_option linter.unusedVariables false
set_option linter.unusedSimpArgs false
attribute [local go_sem] run_max_two run_min_two

theorem ret_of {k : IntKind} {a b : Int} (h : a = b) : Ending.returned (.int k a) = .returned (.int k b) := by rw [h]

theorem tm_if (t : Int) (h : 4294967295 < if t < 0 then 0 else t) : (4294967295 : Int) = tm t := by
  unfold tm; split at h <;> rename_i h1
  · omega
  · rw [if_neg h1, if_pos h]; rfl
theorem tm_lo (t : Int) (h : t < 0) : (0 : Int) = tm t := by unfold tm; rw [if_pos h]; rfl
theorem tm_mid (t : Int) (h0 : 0 ≤ t) (h : (if t < 0 then 0 else t) ≤ 4294967295) : t = (tm t : Int) := by
  rw [if_neg (by omega)] at h; unfold tm; rw [if_neg (by omega), if_neg (by omega)]; omega

set_option maxHeartbeats 400000 in
theorem time_c (t : Int) (w : World) : Calls Try.prog 120 #[.int .i64 t] w fun e w' => e = .returned (.int .u64 (tm t)) ∧ w = w' := by
  go_enter Try.func120, Try.ntmps120
  by_cases h1 : t < 0
  · have hr : Hid ((0 : Int) = tm t) := tm_lo t h1
    go_wp2; go_ret; exact ⟨ret_of hr.out, rfl⟩
  · by_cases h2 : 4294967295 < t
    · have hr : Hid ((4294967295 : Int) = tm t) := tm_if t (by rw [if_neg h1]; exact h2)
      go_wp2; go_ret; exact ⟨ret_of hr.out, rfl⟩
    · have hr : Hid (t = (tm t : Int)) := tm_mid t (by omega) (by rw [if_neg h1]; omega)
      go_wp2; go_ret; exact ⟨ret_of hr.out, rfl⟩

set_option maxHeartbeats 400000 in
theorem width_c (b : Int) (w : World) : Calls Try.prog 145 #[.int .i64 b] w fun e w' => e = .returned (.int .i64 (wd b)) ∧ w = w' := by
  go_enter Try.func145, Try.ntmps145
  by_cases h1 : b < 1
  · have hr : Hid ((1 : Int) = wd b) := by unfold wd; rw [if_pos h1]; rfl
    go_wp2; go_ret; exact ⟨ret_of hr.out, rfl⟩
  · by_cases h2 : 6 < b
    · have hr : Hid ((6 : Int) = wd b) := by unfold wd; rw [if_neg h1, if_pos h2]; rfl
      go_wp2; go_ret; exact ⟨ret_of hr.out, rfl⟩
    · have hr : Hid (b = (wd b : Int)) := by show b = (wd b : Int); unfold wd; rw [if_neg h1, if_neg h2]; omega
      go_wp2; go_ret; exact ⟨ret_of hr.out, rfl⟩

theorem sh_int (l b : Int) : wrap64 ((lv l : Int) * (wd b : Int)) = (sh l b : Int) := by
  have hb := sh_bd l b
  unfold sh at hb ⊢
  have hc : (lv l : Int) * (wd b : Int) = ((lv l * wd b : Nat) : Int) := by simp
  rw [hc]
  unfold wrap64; omega

set_option maxHeartbeats 400000 in
theorem shift_c (l b : Int) (w : World) : Calls Try.prog 146 #[.int .i64 l, .int .i64 b] w fun e w' => e = .returned (.int .i64 (sh l b)) ∧ w = w' := by
  go_enter Try.func146, Try.ntmps146
  by_cases h1 : l < 0
  · have hr : Hid (wrap64 (0 * (wd b : Int)) = sh l b) := by rw [← sh_int l b]; unfold lv; rw [if_pos h1]; rfl
    go_wp2_with (go_at_call 145; refine (width_c _ _).mono ?_; rintro e w' ⟨rfl, rfl⟩)
    go_ret
    exact ⟨ret_of (by have := hr.out; rw [← this, Int.zero_mul]; exact (IntWalk.wrap64_in _ (by omega)).symm), rfl⟩
  · by_cases h2 : 64 < l
    · have hr : Hid (wrap64 (64 * (wd b : Int)) = sh l b) := by rw [← sh_int l b]; unfold lv; rw [if_neg h1, if_pos h2]; rfl
      have hb := wd_bd b
      go_wp2_with (go_at_call 145; refine (width_c _ _).mono ?_; rintro e w' ⟨rfl, rfl⟩)
      go_ret
      exact ⟨ret_of (by have := hr.out; rw [← this]; exact (IntWalk.wrap64_in _ (by omega)).symm), rfl⟩
    · have hr : Hid (wrap64 (l * (wd b : Int)) = sh l b) := by rw [← sh_int l b]; unfold lv; rw [if_neg h1, if_neg h2, Int.toNat_of_nonneg (by omega)]; rfl
      go_wp2_with (go_at_call 145; refine (width_c _ _).mono ?_; rintro e w' ⟨rfl, rfl⟩)
      go_ret
      exact ⟨ret_of (by have := hr.out; exact this), rfl⟩

/-- What a shift by so many of 64 bits leaves, as the walk has it. -/
theorem shr_int (x s : Nat) (hx : x < 2 ^ 64) : (x : Int) / 2 ^ min s 64 = ((x / 2 ^ s : Nat) : Int) := by
  rw [← div_far hx]; simp

theorem dig_int (t l b : Int) : wrap64 (bits .and .u64 ((tm t : Int) / 2 ^ min (sh l b) 64) (IntKind.u64.wrap (IntKind.u64.wrap (2 ^ wd b) - 1))) = (dig t l b : Int) := by
  have ht := tm_lt t
  have hw := wd_bd b
  rw [shr_int (tm t) (sh l b) (by omega)]
  have h1 : IntKind.u64.wrap (IntKind.u64.wrap (2 ^ wd b) - 1) = ((2 ^ wd b - 1 : Nat) : Int) := by
    rcases hw with ⟨h1, h2⟩
    generalize wd b = n at h1 h2 ⊢
    have : n = 1 ∨ n = 2 ∨ n = 3 ∨ n = 4 ∨ n = 5 ∨ n = 6 := by omega
    rcases this with rfl | rfl | rfl | rfl | rfl | rfl <;> rfl
  rw [h1]
  have hq : tm t / 2 ^ sh l b < 4294967296 := Nat.lt_of_le_of_lt (Nat.div_le_self _ _) ht
  have hp : 2 ^ wd b ≤ 64 := Nat.le_trans (Nat.pow_le_pow_right (by decide) hw.2) (by decide)
  rw [bits_and (tm t / 2 ^ sh l b) (2 ^ wd b - 1) (by omega) (by omega), Nat.and_two_pow_sub_one_eq_mod]
  have hm : tm t / 2 ^ sh l b % 2 ^ wd b ≤ tm t / 2 ^ sh l b := Nat.mod_le _ _
  unfold dig
  exact IntWalk.wrap64_in _ (by omega)
theorem dig_bd (t l b : Int) : dig t l b < 64 := by
  have hw := wd_bd b
  have hp : 2 ^ wd b ≤ 64 := Nat.le_trans (Nat.pow_le_pow_right (by decide) hw.2) (by decide)
  exact Nat.lt_of_lt_of_le (Nat.mod_lt _ (Nat.two_pow_pos _)) hp

set_option maxHeartbeats 400000 in
theorem Digit_c (t l b : Int) (w : World) : Calls Try.prog 122 #[.int .i64 t, .int .i64 l, .int .i64 b] w fun e w' => e = .returned (.int .i64 (dig t l b)) ∧ ∃ n, w' = w.drewN n := by
  have h1 := tm_lt t
  have h2 := wd_bd b
  have h3 := sh_bd l b
  go_enter Try.func122, Try.ntmps122
  go_wp2
  go_quiet (first | (go_at_call 145; refine Calls.quiet_of_same ((width_c _ _).mono fun e w' h => ⟨h.1, h.2.symm⟩)) | (go_at_call 120; refine Calls.quiet_of_same ((time_c _ _).mono fun e w' h => ⟨h.1, h.2.symm⟩)) | (go_at_call 146; refine Calls.quiet_of_same ((shift_c _ _ _).mono fun e w' h => ⟨h.1, h.2.symm⟩)))
  go_wp2
  go_ret
  exact ⟨ret_of (dig_int t l b), _, rfl⟩

theorem flo_int (t l b : Int) : wrap64 (IntKind.u64.wrap (((tm t : Int) / 2 ^ min (sh l b) 64) * 2 ^ min (sh l b) 64)) = (flo t l b : Int) := by
  have ht := tm_lt t
  rw [shr_int (tm t) (sh l b) (by omega)]
  have hle : tm t / 2 ^ sh l b * 2 ^ sh l b ≤ tm t := Nat.div_mul_le_self _ _
  have hs : ((tm t / 2 ^ sh l b : Nat) : Int) * 2 ^ min (sh l b) 64 = ((tm t / 2 ^ sh l b * 2 ^ sh l b : Nat) : Int) := by
    by_cases h : sh l b ≤ 64
    · rw [Nat.min_eq_left h]; simp
    · rw [Nat.div_eq_of_lt (Nat.lt_of_lt_of_le (show tm t < 2 ^ 64 by omega) (Nat.pow_le_pow_right (by decide) (by omega)))]; simp
  rw [hs, IntKind.wrap_u64]
  unfold flo
  rw [show ((tm t / 2 ^ sh l b * 2 ^ sh l b : Nat) : Int) % 18446744073709551616 = ((tm t / 2 ^ sh l b * 2 ^ sh l b : Nat) : Int) from by omega]
  exact IntWalk.wrap64_in _ (by omega)

set_option maxHeartbeats 400000 in
theorem Floor_c (t l b : Int) (w : World) : Calls Try.prog 135 #[.int .i64 t, .int .i64 l, .int .i64 b] w fun e w' => e = .returned (.int .i64 (flo t l b)) ∧ w = w' := by
  have h1 := tm_lt t
  have h3 := sh_bd l b
  go_enter Try.func135, Try.ntmps135
  go_wp2_with (first | (go_at_call 120; refine (time_c _ _).mono ?_; rintro e w' ⟨rfl, rfl⟩) | (go_at_call 146; refine (shift_c _ _ _).mono ?_; rintro e w' ⟨rfl, rfl⟩))
  go_ret
  exact ⟨ret_of (flo_int t l b), rfl⟩

/-- At which level two times differ at the highest; -1: nowhere. -/
noncomputable def topOf (a c b : Int) : Int := ((Classical.choose (Num.Top.exists (w := wd b) (wd_bd b).1 (tm a) (tm c)) : Nat) : Int) - 1
theorem topOf_spec (a c b : Int) : ∃ i, Num.Top (wd b) (tm a) (tm c) i ∧ topOf a c b = (i : Int) - 1 := ⟨_, Classical.choose_spec (Num.Top.exists (w := wd b) (wd_bd b).1 (tm a) (tm c)), rfl⟩
theorem topOf_eq {a c b : Int} {i : Nat} (h : Num.Top (wd b) (tm a) (tm c) i) : topOf a c b = (i : Int) - 1 := by
  obtain ⟨j, hj, e⟩ := topOf_spec a c b
  rw [e, hj.unique h]
theorem topOf_bd (a c b : Int) : -1 ≤ topOf a c b ∧ topOf a c b ≤ 31 := by
  obtain ⟨j, hj, e⟩ := topOf_spec a c b
  have := hj.le (wd_bd b).1 (tm_lt a) (tm_lt c)
  omega

set_option maxHeartbeats 400000 in
theorem Top_c (a c b : Int) (w : World) : Calls Try.prog 121 #[.int .i64 a, .int .i64 c, .int .i64 b] w fun e w' => e = .returned (.int .i64 (topOf a c b)) ∧ w = w' := by
  have h1 := tm_lt a
  have h2 := tm_lt c
  have hb := wd_bd b
  obtain ⟨N, hN, hT⟩ := topOf_spec a c b
  have hN32 := hN.le hb.1 h1 h2
  have HT := Lib.hid hT; clear hT
  have HN := Lib.hid hN.to_len; clear hN
  obtain ⟨X, hX⟩ : ∃ X, X = tm a ^^^ tm c := ⟨_, rfl⟩
  have hXl : X < 4294967296 := by rw [hX]; exact Nat.xor_lt_two_pow (n := 32) h1 h2
  have hxor : bits .xor .u64 (tm a : Int) (tm c : Int) = (X : Int) := by rw [hX]; exact bits_xor _ _ (by omega) (by omega)
  rw [← hX] at HN
  clear hX
  go_enter Try.func121, Try.ntmps121
  go_wp2_with (first | (go_at_call 120; refine (time_c _ _).mono ?_; rintro e w' ⟨rfl, rfl⟩))
  clear hxor h1 h2
  go_loop [7, 8] (fun v7 v8 => ∃ (i : Nat) (x : Nat), i ≤ N ∧ x < 4294967296 ∧ v7 = .int .i64 ((i : Int) - 1) ∧ v8 = .int .u64 x ∧ Hid (Num.Len (wd b) x (N - i))) (fun v7 _ => (N + 1 - (intOf v7 + 1)).toNat)
  case atStart => exact ⟨0, X, by omega, hXl, by simp, rfl, HN⟩
  case round =>
    obtain ⟨i, x, hi, hx, rfl, rfl, HL⟩ := hrel
    by_cases h0 : x = 0
    · subst h0
      have : N - i = 0 := HL.out.unique (Num.Len.zero _)
      obtain rfl : i = N := by omega
      clear this
      go_wp2
      go_ret
      exact ⟨ret_of HT.out.symm, rfl⟩
    · have hlt : i < N := by
        rcases Nat.lt_or_ge i N with h | h
        · exact h
        · have h' : N - i = 0 := by omega
          have := HL.out.none
          rw [h'] at this
          simp at this
          omega
      have hne : ((x : Int) != 0) = true := by rw [bne_iff_ne]; omega
      have HL' : Hid (Num.Len (wd b) (x / 2 ^ wd b) (N - (i + 1))) := by
        show Num.Len _ _ _
        obtain ⟨m, hm⟩ := Num.Len.exists hb.1 (x / 2 ^ wd b)
        have := (hm.succ h0).unique HL.out
        rw [show N - (i + 1) = m by omega]; exact hm
      have hle : x / 2 ^ wd b < 4294967296 := Nat.lt_of_le_of_lt (Nat.div_le_self _ _) hx
      go_wp2_with (first | (go_at_call 145; refine (width_c _ _).mono ?_; rintro e w' ⟨rfl, rfl⟩))
      go_round
      case rel => exact ⟨i + 1, x / 2 ^ wd b, by omega, hle, by go_num, by simp, HL'⟩
      case measure => simp [intOf]; omega


/-- The slots that are passed. -/
noncomputable def crossOf (n m l b : Int) : Int × Int × Bool :=
  if tm m ≤ tm n ∨ topOf n m b < max l 0 then (0, 0, false) else if max l 0 < topOf n m b then (0, ((2 ^ wd b : Nat) : Int) - 1, true) else ((dig n l b : Int) + 1, (dig m l b : Int), true)
theorem cross_no {n m l b : Int} (h : tm m ≤ tm n ∨ topOf n m b < max l 0) : crossOf n m l b = (0, 0, false) := by unfold crossOf; rw [if_pos h]
theorem cross_all {n m l b : Int} (h : ¬ tm m ≤ tm n) (h' : max l 0 < topOf n m b) : crossOf n m l b = (0, ((2 ^ wd b : Nat) : Int) - 1, true) := by unfold crossOf; rw [if_neg (by omega), if_pos h']
theorem cross_edge {n m l b : Int} (h : ¬ tm m ≤ tm n) (h' : max l 0 = topOf n m b) : crossOf n m l b = ((dig n l b : Int) + 1, (dig m l b : Int), true) := by unfold crossOf; rw [if_neg (by omega), if_neg (by omega)]
theorem dig_max (t l b : Int) (h : l < 0) : dig t 0 b = dig t l b := by
  unfold dig sh
  rw [show lv l = 0 by unfold lv; rw [if_pos h], show lv 0 = 0 by rfl]
/-- Where what is due later stands. -/
noncomputable def placeOf (n d l b : Int) : Int × Int := if tm d ≤ tm n then (-1, -1) else if topOf n d b < l then (topOf n d b, (dig d (topOf n d b) b : Int)) else (l, 0)
theorem ret2_of {k k' : IntKind} {a b c d : Int} (h : a = b) (h' : c = d) : Ending.returned (.tuple #[.int k a, .int k' c]) = .returned (.tuple #[.int k b, .int k' d]) := by rw [h, h']
theorem ret2_pair {k k' : IntKind} {a c : Int} {p : Int × Int} (h : p = (a, c)) : Ending.returned (.tuple #[.int k a, .int k' c]) = .returned (.tuple #[.int k p.1, .int k' p.2]) := by rw [h]
theorem ret3_of {k k' : IntKind} {a b c d : Int} {x y : Bool} (h : (a, c, x) = (b, d, y)) : Ending.returned (.tuple #[.int k a, .int k' c, .bool x]) = .returned (.tuple #[.int k b, .int k' d, .bool y]) := by
  simp only [Prod.mk.injEq] at h; rw [h.1, h.2.1, h.2.2]

theorem pow_int (n : Nat) : ((2 : Int) ^ n) = ((2 ^ n : Nat) : Int) := by simp
theorem shl_one (b : Int) : wrap64 (wrap64 ((2 : Int) ^ wd b) - 1) = ((2 ^ wd b : Nat) : Int) - 1 := by
  rcases wd_bd b with ⟨h1, h2⟩
  generalize wd b = n at h1 h2 ⊢
  have : n = 1 ∨ n = 2 ∨ n = 3 ∨ n = 4 ∨ n = 5 ∨ n = 6 := by omega
  rcases this with rfl | rfl | rfl | rfl | rfl | rfl <;> (unfold wrap64; rfl)

set_option maxHeartbeats 1000000 in
theorem Cross_c (n m l b : Int) (w : World) : Calls Try.prog 126 #[.int .i64 n, .int .i64 m, .int .i64 l, .int .i64 b] w fun e w' =>
    e = .returned (.tuple #[.int .i64 (crossOf n m l b).1, .int .i64 (crossOf n m l b).2.1, .bool (crossOf n m l b).2.2]) ∧ ∃ n, w' = w.drewN n := by
  have ht := topOf_bd n m b
  have h1 := tm_lt n
  have h2 := tm_lt m
  have hw := wd_bd b
  generalize hT : topOf n m b = T at ht
  have HT := Lib.hid hT
  have hd1 := dig_bd n l b
  have hd2 := dig_bd m l b
  have hTC : ∀ w : World, Calls Try.prog 121 #[.int .i64 n, .int .i64 m, .int .i64 b] w fun e w' => e = .returned (.int .i64 T) ∧ w = w' := fun w => by rw [← hT]; exact Top_c n m b w
  have HTC := Lib.hid hTC
  clear hTC
  have key : ∃ r : Int, r = max l 0 ∧ 0 ≤ r := ⟨_, rfl, by omega⟩
  by_cases hc : tm m ≤ tm n
  · have hr := Lib.hid (cross_no (l := l) (b := b) (Or.inl hc))
    clear hT
    by_cases hl : l < 0
    all_goals
      go_enter Try.func126, Try.ntmps126
      go_wp2_with (first | (go_at_call 121; refine (HTC.out _).mono ?_; rintro e w' ⟨rfl, rfl⟩) | (go_at_call 120; refine (time_c _ _).mono ?_; rintro e w' ⟨rfl, rfl⟩))
      go_ret3
      exact ⟨ret3_of hr.out.symm, 0, rfl⟩
  · rcases Int.lt_trichotomy T (max l 0) with h | h | h
    · have hr := Lib.hid (cross_no (n := n) (m := m) (l := l) (b := b) (Or.inr (by rw [hT]; exact h)))
      clear hT
      by_cases hl : l < 0
      · have h' : T < 0 := by omega
        go_enter Try.func126, Try.ntmps126
        go_wp2_with (first | (go_at_call 121; refine (HTC.out _).mono ?_; rintro e w' ⟨rfl, rfl⟩) | (go_at_call 120; refine (time_c _ _).mono ?_; rintro e w' ⟨rfl, rfl⟩))
        go_ret3
        exact ⟨ret3_of hr.out.symm, 0, rfl⟩
      · have h' : T < l := by omega
        clear h key
        go_enter Try.func126, Try.ntmps126
        go_wp2_with (first | (go_at_call 121; refine (HTC.out _).mono ?_; rintro e w' ⟨rfl, rfl⟩) | (go_at_call 120; refine (time_c _ _).mono ?_; rintro e w' ⟨rfl, rfl⟩))
        go_ret3
        exact ⟨ret3_of hr.out.symm, 0, rfl⟩
    · have hr := Lib.hid (cross_edge (n := n) (m := m) (l := l) (b := b) hc (by rw [hT]; exact h.symm))
      clear hT
      by_cases hl : l < 0
      · have hm1 := Lib.hid (dig_max n l b hl)
        have hm2 := Lib.hid (dig_max m l b hl)
        have h' : T = 0 := by omega
        subst h'
        clear h key
        have hd3 := dig_bd n 0 b
        have hd4 := dig_bd m 0 b
        go_enter Try.func126, Try.ntmps126
        go_wp2_with (first | (go_at_call 121; refine (HTC.out _).mono ?_; rintro e w' ⟨rfl, rfl⟩) | (go_at_call 120; refine (time_c _ _).mono ?_; rintro e w' ⟨rfl, rfl⟩) | (go_at_call 122; refine (Digit_c _ _ _ _).mono ?_; rintro e w' ⟨rfl, q, rfl⟩))
        go_ret3
        exact ⟨ret3_of (by rw [hr.out, ← hm1.out, ← hm2.out]), _, rfl⟩
      · have h' : T = l := by omega
        subst h'
        clear h key
        go_enter Try.func126, Try.ntmps126
        go_wp2_with (first | (go_at_call 121; refine (HTC.out _).mono ?_; rintro e w' ⟨rfl, rfl⟩) | (go_at_call 120; refine (time_c _ _).mono ?_; rintro e w' ⟨rfl, rfl⟩) | (go_at_call 122; refine (Digit_c _ _ _ _).mono ?_; rintro e w' ⟨rfl, q, rfl⟩))
        go_ret3
        exact ⟨ret3_of (by rw [hr.out]), _, rfl⟩
    · have hr := Lib.hid (cross_all (n := n) (m := m) (l := l) (b := b) hc (by rw [hT]; exact h))
      clear hT
      by_cases hl : l < 0
      all_goals
        have h' : 0 < T := by omega
        have h'' : l < T := by omega
        clear h key
        go_enter Try.func126, Try.ntmps126
        go_wp2_with (first | (go_at_call 121; refine (HTC.out _).mono ?_; rintro e w' ⟨rfl, rfl⟩) | (go_at_call 120; refine (time_c _ _).mono ?_; rintro e w' ⟨rfl, rfl⟩))
        go_quiet (first | (go_at_call 145; refine Calls.quiet_of_same ((width_c _ _).mono fun e w' h => ⟨h.1, h.2.symm⟩)))
        go_wp2
        go_ret3
        exact ⟨ret3_of (by rw [hr.out, shl_one]), _, rfl⟩

set_option maxHeartbeats 1000000 in
theorem Place_c (n d l b : Int) (w : World) : Calls Try.prog 96 #[.int .i64 n, .int .i64 d, .int .i64 l, .int .i64 b] w fun e w' =>
    e = .returned (.tuple #[.int .i64 (placeOf n d l b).1, .int .i64 (placeOf n d l b).2]) ∧ ∃ n, w' = w.drewN n := by
  have ht := topOf_bd n d b
  have h1 := tm_lt n
  have h2 := tm_lt d
  generalize hT : topOf n d b = T at ht
  have hTC : ∀ w : World, Calls Try.prog 121 #[.int .i64 n, .int .i64 d, .int .i64 b] w fun e w' => e = .returned (.int .i64 T) ∧ w = w' := fun w => by rw [← hT]; exact Top_c n d b w
  have HTC := Lib.hid hTC
  clear hTC
  by_cases hc : tm d ≤ tm n
  · have hr : Hid (placeOf n d l b = (-1, -1)) := by show _ = _; unfold placeOf; rw [if_pos hc]
    clear hT
    go_enter Try.func96, Try.ntmps96
    go_wp2_with (first | (go_at_call 120; refine (time_c _ _).mono ?_; rintro e w' ⟨rfl, rfl⟩))
    go_ret2
    exact ⟨ret2_pair hr.out, 0, rfl⟩
  · by_cases hl : T < l
    · have hr : Hid (placeOf n d l b = (T, (dig d T b : Int))) := by show _ = _; unfold placeOf; rw [if_neg hc, hT, if_pos hl]
      clear hT
      go_enter Try.func96, Try.ntmps96
      go_wp2_with (first | (go_at_call 121; refine (HTC.out _).mono ?_; rintro e w' ⟨rfl, rfl⟩) | (go_at_call 120; refine (time_c _ _).mono ?_; rintro e w' ⟨rfl, rfl⟩) | (go_at_call 122; refine (Digit_c _ _ _ _).mono ?_; rintro e w' ⟨rfl, q, rfl⟩))
      go_ret2
      exact ⟨ret2_pair hr.out, _, rfl⟩
    · have hr : Hid (placeOf n d l b = (l, 0)) := by show _ = _; unfold placeOf; rw [if_neg hc, hT, if_neg hl]
      clear hT
      go_enter Try.func96, Try.ntmps96
      go_wp2_with (first | (go_at_call 121; refine (HTC.out _).mono ?_; rintro e w' ⟨rfl, rfl⟩) | (go_at_call 120; refine (time_c _ _).mono ?_; rintro e w' ⟨rfl, rfl⟩))
      go_ret2
      exact ⟨ret2_pair hr.out, 0, rfl⟩

end Go.Proofs.Ytndpkonihcebeaa.Dig
