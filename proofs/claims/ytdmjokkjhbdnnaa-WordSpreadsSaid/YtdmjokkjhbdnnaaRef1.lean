/- Package knellref01, walked: powers, parts. -/
import Derived.Test.YtdmjokkjhbdnnaaWords
namespace Go.Proofs.Ytdmjokkjhbdnnaa.Ref1
open Go.RowKit Go.Proofs.Ytdmjokkjhbdnnaa Go.Proofs.Ytdmjokkjhbdnnaa.Num Go.Proofs.Ytdmjokkjhbdnnaa.Wd
set_option linter.unusedVariables false
set_option linter.unusedSimpArgs false

theorem two_mul (p : Nat) (h : p * 2 < 18446744073709551616) : IntKind.u64.wrap ((p : Int) * 2) = ((p * 2 : Nat) : Int) := by rw [IntKind.wrap_u64]; omega

theorem u64_nat (q : Nat) (h : q < 2 ^ 64) : IntKind.u64.wrap (q : Int) = (q : Int) := by rw [IntKind.wrap_u64]; omega

set_option maxHeartbeats 400000 in
theorem Power_c (n : Nat) (h : n ≤ 63) (w : World) : Calls Try.prog 43 #[.int .i64 (n : Int)] w fun e w' => e = .returned (.int .u64 ((2 ^ n : Nat) : Int)) ∧ w = w' := by
  go_enter Try.func43, Try.ntmps43
  go_wp2
  go_loop [3, 4] (fun p i => ∃ k q : Nat, k ≤ n ∧ i = .int .i64 k ∧ p = .int .u64 q ∧ Hid (q = 2 ^ k)) (fun _ i => (n - intOf i).toNat)
  case atStart => exact ⟨0, 1, by omega, rfl, rfl, rfl⟩
  case round =>
    obtain ⟨k, q, hk, rfl, rfl, HQ⟩ := hrel
    by_cases hlt : k < n
    · have hq2 : Hid (q * 2 = 2 ^ (k + 1)) := by show _ = _; rw [HQ.out, Nat.pow_succ]
      have hb : q * 2 < 18446744073709551616 := by rw [hq2.out]; exact Nat.lt_of_le_of_lt (Nat.pow_le_pow_right (n := 2) (by decide) (show k + 1 ≤ 63 by omega)) (by decide)
      have hw := Lib.hid (two_mul q hb)
      clear hb
      go_wp2
      go_round
      case rel => exact ⟨k + 1, q * 2, by omega, by go_num, by first | rw [hw.out] | go_num, hq2⟩
      case measure => simp [intOf]; omega
    · obtain rfl : k = n := by omega
      go_wp2
      go_ret
      exact ⟨Wd.ret_of (by rw [HQ.out]; simp), rfl⟩

set_option maxHeartbeats 400000 in
theorem Part_yes (s n : Int) (h : Fits s n) (w : World) : Calls Try.prog 51 #[.int .i64 s, .int .i64 n] w fun e w' => e = .returned (.bool true) ∧ w = w' := by
  obtain ⟨h0, h1, h2, h3⟩ := h
  have h4 : n ≤ 64 - s := by omega
  have h5 : s ≤ 63 := by omega
  go_enter Try.func51, Try.ntmps51
  go_wp2
  go_ret
  exact ⟨rfl, rfl⟩
set_option maxHeartbeats 400000 in
theorem Part_no (s n : Int) (h : ¬ Fits s n) (w : World) : Calls Try.prog 51 #[.int .i64 s, .int .i64 n] w fun e w' => e = .returned (.bool false) ∧ w = w' := by
  by_cases h0 : 0 ≤ s
  · by_cases h1 : s ≤ 63
    · by_cases h2 : 1 ≤ n
      · have h4 : ¬ n ≤ 64 - s := fun h' => h ⟨h0, h2, by omega, by omega⟩
        clear h
        go_enter Try.func51, Try.ntmps51
        go_wp2
        go_ret
        exact ⟨retb_of (by first | rfl | (simp; omega)), rfl⟩
      · clear h
        go_enter Try.func51, Try.ntmps51
        go_wp2
        go_ret
        exact ⟨retb_of (by first | rfl | (simp; omega)), rfl⟩
    · clear h
      go_enter Try.func51, Try.ntmps51
      go_wp2
      go_ret
      exact ⟨retb_of (by first | rfl | (simp; omega)), rfl⟩
  · clear h
    go_enter Try.func51, Try.ntmps51
    go_wp2
    go_ret
    exact ⟨retb_of (by first | rfl | (simp; omega)), rfl⟩

set_option maxHeartbeats 400000 in
theorem below_c (x n : Nat) (hx : x < 2 ^ 64) (hn : n ≤ 64) (w : World) : Calls Try.prog 52 #[.int .u64 x, .int .i64 n] w fun e w' => e = .returned (.int .u64 ((x % 2 ^ n : Nat) : Int)) ∧ w = w' := by
  by_cases h : n = 64
  · subst h
    have hr : Hid (x % 2 ^ 64 = x) := Nat.mod_eq_of_lt hx
    clear hx
    go_enter Try.func52, Try.ntmps52
    go_wp2
    go_ret
    exact ⟨Wd.ret_of (by rw [hr.out]), rfl⟩
  · have hne : ((n : Int) == 64) = false := by rw [beq_eq_false_iff_ne]; omega
    obtain ⟨p, hp⟩ : ∃ p, p = 2 ^ n := ⟨_, rfl⟩
    have hp1 : 1 ≤ p := by rw [hp]; exact Nat.two_pow_pos n
    have HP : Hid (∀ w : World, Calls Try.prog 43 #[.int .i64 (n : Int)] w fun e w' => e = .returned (.int .u64 (p : Int)) ∧ w = w') := by
      show ∀ w : World, _
      intro w; rw [hp]; exact Power_c n (by omega) w
    rw [← hp]
    clear hp hx h
    go_enter Try.func52, Try.ntmps52
    go_wp2_with (first | (go_at_call 43; refine (HP.out _).mono ?_; rintro e w' ⟨rfl, rfl⟩))
    go_ret
    exact ⟨Wd.ret_of (by simp), rfl⟩

set_option maxHeartbeats 400000 in
theorem Get_no (x : Int) (s n : Int) (h : ¬ Fits s n) (w : World) : Calls Try.prog 31 #[.int .u64 x, .int .i64 s, .int .i64 n] w fun e w' => e = .returned (.int .u64 0) ∧ w = w' := by
  have H := Lib.hid h
  clear h
  go_enter Try.func31, Try.ntmps31
  go_wp2_with (first | (go_at_call 51; refine (Part_no _ _ H.out _).mono ?_; rintro e w' ⟨rfl, rfl⟩))
  go_ret
  exact ⟨rfl, rfl⟩
set_option maxHeartbeats 400000 in
theorem Get_yes (x s n : Nat) (hx : x < 2 ^ 64) (h1 : 1 ≤ n) (h2 : s + n ≤ 64) (w : World) : Calls Try.prog 31 #[.int .u64 x, .int .i64 s, .int .i64 n] w fun e w' =>
    e = .returned (.int .u64 (getN x s n)) ∧ w = w' := by
  obtain ⟨p, hp⟩ : ∃ p, p = 2 ^ s := ⟨_, rfl⟩
  have hp1 : 1 ≤ p := by rw [hp]; exact Nat.two_pow_pos s
  have HP : Hid (∀ w : World, Calls Try.prog 43 #[.int .i64 (s : Int)] w fun e w' => e = .returned (.int .u64 (p : Int)) ∧ w = w') := by
    show ∀ w : World, _
    intro w; rw [hp]; exact Power_c s (by omega) w
  have HB : Hid (∀ w : World, Calls Try.prog 52 #[.int .u64 (IntKind.u64.wrap ((x : Int) / (p : Int))), .int .i64 (n : Int)] w fun e w' => e = .returned (.int .u64 (getN x s n)) ∧ w = w') := by
    show ∀ w : World, _
    intro w
    have hle : x / p < 2 ^ 64 := Nat.lt_of_le_of_lt (Nat.div_le_self _ _) hx
    rw [show (x : Int) / (p : Int) = ((x / p : Nat) : Int) by simp, u64_nat _ hle, hp]
    exact below_c (x / 2 ^ s) n (Nat.lt_of_le_of_lt (Nat.div_le_self _ _) hx) (by omega) w
  have hxi : (x : Int) ≤ 18446744073709551615 := by omega
  clear hp hx
  go_enter Try.func31, Try.ntmps31
  go_wp2_with fail
  refine (Part_yes _ _ ⟨by omega, by omega, by omega, by omega⟩ _).mono ?_
  rintro e w' ⟨rfl, rfl⟩
  go_wp2_with fail
  refine (HP.out _).mono ?_
  rintro e w' ⟨rfl, rfl⟩
  go_wp2_with fail
  refine (HB.out _).mono ?_
  rintro e w' ⟨rfl, rfl⟩
  go_wp2_with fail
  go_ret
  exact ⟨rfl, rfl⟩

theorem put_sum (w s n v : Nat) (hw : w < 2 ^ 64) (hsn : s + n ≤ 64) (hv : v < 2 ^ n) :
    IntKind.u64.wrap (IntKind.u64.wrap ((w : Int) - IntKind.u64.wrap ((getN w s n : Int) * ((2 ^ s : Nat) : Int))) + IntKind.u64.wrap ((v : Int) * ((2 ^ s : Nat) : Int))) = (putN w s n v : Int) := by
  have h1 := getN_le w s n
  have h2 := putN_sub w s n v
  have h3 := putN_lt w s n v hw hsn hv
  rw [show (getN w s n : Int) * ((2 ^ s : Nat) : Int) = ((getN w s n * 2 ^ s : Nat) : Int) by simp, show (v : Int) * ((2 ^ s : Nat) : Int) = ((v * 2 ^ s : Nat) : Int) by simp]
  generalize getN w s n * 2 ^ s = a at h1 h2 ⊢
  generalize v * 2 ^ s = b at h2 ⊢
  generalize putN w s n v = c at h2 h3 ⊢
  simp only [IntKind.wrap_u64]
  omega

set_option maxHeartbeats 400000 in
theorem Put_no (x : Int) (s n v : Int) (h : ¬ Fits s n) (w : World) : Calls Try.prog 29 #[.int .u64 x, .int .i64 s, .int .i64 n, .int .u64 v] w fun e w' => e = .returned (.tuple #[.int .u64 0, .int .i64 1]) ∧ w = w' := by
  have H := Lib.hid h
  clear h
  go_enter Try.func29, Try.ntmps29
  go_wp2_with (first | (go_at_call 51; refine (Part_no _ _ H.out _).mono ?_; rintro e w' ⟨rfl, rfl⟩))
  go_ret2
  exact ⟨rfl, rfl⟩
set_option maxHeartbeats 400000 in
theorem Put_far (x s n v : Nat) (hx : x < 2 ^ 64) (hv : v < 2 ^ 64) (h1 : 1 ≤ n) (h2 : s + n ≤ 64) (h : ¬ v < 2 ^ n) (w : World) :
    Calls Try.prog 29 #[.int .u64 x, .int .i64 s, .int .i64 n, .int .u64 v] w fun e w' => e = .returned (.tuple #[.int .u64 0, .int .i64 2]) ∧ w = w' := by
  have HB := Lib.hid (fun w => below_c v n hv (by omega) w)
  have hne : (((v % 2 ^ n : Nat) : Int) != (v : Int)) = true := by
    rw [bne_iff_ne]
    have := Nat.mod_lt v (Nat.two_pow_pos n)
    omega
  generalize v % 2 ^ n = r at HB hne
  clear hx hv h
  go_enter Try.func29, Try.ntmps29
  go_wp2_with (first | (go_at_call 51; refine (Part_yes _ _ ⟨by omega, by omega, by omega, by omega⟩ _).mono ?_; rintro e w' ⟨rfl, rfl⟩) | (go_at_call 52; refine (HB.out _).mono ?_; rintro e w' ⟨rfl, rfl⟩))
  go_ret2
  exact ⟨rfl, rfl⟩
set_option maxHeartbeats 400000 in
theorem Put_yes (x s n v : Nat) (hx : x < 2 ^ 64) (h1 : 1 ≤ n) (h2 : s + n ≤ 64) (h : v < 2 ^ n) (w : World) :
    Calls Try.prog 29 #[.int .u64 x, .int .i64 s, .int .i64 n, .int .u64 v] w fun e w' => e = .returned (.tuple #[.int .u64 (putN x s n v), .int .i64 0]) ∧ w = w' := by
  have hp : 2 ^ n ≤ 2 ^ 64 := Nat.pow_le_pow_right (by decide) (by omega)
  have hbl : ∀ w : World, Calls Try.prog 52 #[.int .u64 v, .int .i64 n] w fun e w' => e = .returned (.int .u64 (v : Int)) ∧ w = w' := fun w => by
    have := below_c v n (by omega) (by omega) w
    rwa [Nat.mod_eq_of_lt h] at this
  have HB := Lib.hid hbl
  have HG := Lib.hid (fun w => Get_yes x s n hx h1 h2 w)
  have HS := Lib.hid (put_sum x s n v hx h2 h)
  have HPW := Lib.hid (fun w => Power_c s (by omega) w)
  have hxi : (x : Int) ≤ 18446744073709551615 := by omega
  generalize getN x s n = g at HG HS
  generalize 2 ^ s = p at HS HPW
  clear hx hp h hbl
  go_enter Try.func29, Try.ntmps29
  go_wp2_with (first | (go_at_call 51; refine (Part_yes _ _ ⟨by omega, by omega, by omega, by omega⟩ _).mono ?_; rintro e w' ⟨rfl, rfl⟩) | (go_at_call 52; refine (HB.out _).mono ?_; rintro e w' ⟨rfl, rfl⟩) | (go_at_call 31; refine (HG.out _).mono ?_; rintro e w' ⟨rfl, rfl⟩) | (go_at_call 43; refine (HPW.out _).mono ?_; rintro e w' ⟨rfl, rfl⟩))
  go_ret2
  exact ⟨Wd.ret2_of HS.out rfl, rfl⟩

end Go.Proofs.Ytdmjokkjhbdnnaa.Ref1
