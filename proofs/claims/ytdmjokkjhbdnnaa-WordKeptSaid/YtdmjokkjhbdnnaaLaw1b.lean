/- WordKept, walked: it answers true for every word, part and numbers. -/
import Derived.Test.YtdmjokkjhbdnnaaLaw1
namespace Go.Proofs.Ytdmjokkjhbdnnaa.Law1
open Go.RowKit Go.Proofs.Ytdmjokkjhbdnnaa Go.Proofs.Ytdmjokkjhbdnnaa.Num Go.Proofs.Ytdmjokkjhbdnnaa.Wd
set_option linter.unusedVariables false
set_option linter.unusedSimpArgs false

theorem kept_high (w s n g : Nat) (hg : g < 2 ^ n) (hsn : s + n ≤ 64) : getN (putN w s n g) (s + n) (64 - s - n) = getN w (s + n) (64 - s - n) := by
  unfold getN; rw [putN_high w s n g hg]
theorem kept_low (w s n g : Nat) : getN (putN w s n g) 0 s = getN w 0 s := by
  unfold getN; simp only [Nat.pow_zero, Nat.div_one]; rw [putN_mod]
theorem whole (x : Nat) (h : x < 2 ^ 64) : getN x 0 64 = x := by unfold getN; simp only [Nat.pow_zero, Nat.div_one]; exact Nat.mod_eq_of_lt h
theorem put_comm (w s n g u : Nat) (hs : 1 ≤ s) (hg : g < 2 ^ n) (hu : u < 2 ^ s) : putN (putN w s n g) 0 s u = putN (putN w 0 s u) s n g := by
  have e0 : ∀ x, putN x 0 s u = 2 ^ s * (x / 2 ^ s) + u := fun x => by unfold putN; simp only [Nat.pow_zero, Nat.div_one, Nat.one_mul, Nat.mod_one, Nat.add_zero]
  rw [e0, e0, putN_div]
  have h1 : (2 ^ s * (w / 2 ^ s) + u) / 2 ^ s = w / 2 ^ s := by rw [Nat.mul_add_div (Nat.two_pow_pos s), Nat.div_eq_of_lt hu, Nat.add_zero]
  have h2 : (2 ^ s * (w / 2 ^ s) + u) % 2 ^ s = u := by rw [Nat.mul_add_mod, Nat.mod_eq_of_lt hu]
  unfold putN
  rw [h1, h2]

theorem get_m (x s n g : Nat) (hx : x < 2 ^ 64) (h1 : 1 ≤ n) (h2 : s + n ≤ 64) (hg : getN x s n = g) (a b : Int) (ha : a = s) (hb : b = n) (w : World) :
    Calls Try.prog 30 #[.int .u64 x, .int .i64 a, .int .i64 b] w fun e w' => e = .returned (.int .u64 (g : Int)) ∧ Made w w' := by
  subst ha hb hg
  refine (Wd.Get_yes x s n hx h1 h2 w).mono ?_
  rintro e w' ⟨rfl, q, rfl⟩
  exact ⟨rfl, Made.drewN _ _⟩
theorem put_m (x s n v p : Nat) (hx : x < 2 ^ 64) (h1 : 1 ≤ n) (h2 : s + n ≤ 64) (hv : v < 2 ^ n) (hp : putN x s n v = p) (a b : Int) (ha : a = s) (hb : b = n) (w : World) :
    Calls Try.prog 28 #[.int .u64 x, .int .i64 a, .int .i64 b, .int .u64 v] w fun e w' => e = .returned (.tuple #[.int .u64 (p : Int), .int .i64 0]) ∧ Made w w' := by
  subst ha hb hp
  refine (Wd.Put_yes x s n v hx h1 h2 hv w).mono ?_
  rintro e w' ⟨rfl, q, rfl⟩
  exact ⟨rfl, Made.drewN _ _⟩

set_option maxRecDepth 100000 in
set_option maxHeartbeats 2000000 in
theorem WordKept_c (x0 v u : Nat) (sh wi : Int) (hx : x0 < 2 ^ 64) (hv : v < 2 ^ 64) (hu : u < 2 ^ 64) (hsh : 0 ≤ sh ∧ sh ≤ 255) (hwi : 0 ≤ wi ∧ wi ≤ 255) (w : World) :
    Calls Try.prog 9 #[.int .u64 x0, .int .u8 sh, .int .u8 wi, .int .u64 v, .int .u64 u] w fun e w' => e = .returned (.bool true) ∧ Made w w' := by
  obtain ⟨hsh0, hsh1⟩ := hsh
  obtain ⟨hwi0, hwi1⟩ := hwi
  obtain ⟨S, hS⟩ : ∃ S : Nat, sh % 64 = (S : Int) := ⟨(sh % 64).toNat, by omega⟩
  have hS64 : S ≤ 63 := by omega
  obtain ⟨N, hN⟩ : ∃ N : Nat, 1 + wi % (64 - (S : Int)) = (N : Int) := ⟨(1 + wi % (64 - (S : Int))).toNat, by
    have := Int.emod_nonneg wi (show (64 - (S : Int)) ≠ 0 by omega); omega⟩
  have hm0 := Int.emod_nonneg wi (show (64 - (S : Int)) ≠ 0 by omega)
  have hm1 := Int.emod_lt_of_pos wi (show 0 < (64 - (S : Int)) by omega)
  have hN1 : 1 ≤ N := by omega
  have hSN : S + N ≤ 64 := by omega
  have HSe := Lib.hid hS
  have HNe := Lib.hid hN
  clear hS hN
  obtain ⟨g, hg⟩ : ∃ g, getN v 0 N = g := ⟨_, rfl⟩
  have hgl : g < 2 ^ N := by rw [← hg]; exact getN_lt _ _ _
  obtain ⟨x, hxe⟩ : ∃ x, putN x0 S N g = x := ⟨_, rfl⟩
  have hxl : x < 2 ^ 64 := by rw [← hxe]; exact putN_lt _ _ _ _ hx hSN hgl
  have C2 := Lib.hid (fun a b ha hb w => get_m v 0 N g hv hN1 (by omega) hg a b ha hb w)
  have C3 := Lib.hid (fun a b ha hb w => put_m x0 S N g x hx hN1 hSN hgl hxe a b ha hb w)
  have C4 := Lib.hid (fun a b ha hb w => get_m x S N g hxl hN1 hSN (by rw [← hxe]; exact get_put _ _ _ _ hgl) a b ha hb w)
  have C6 := Lib.hid (fun a b ha hb w => get_m x 0 64 x hxl (by omega) (by omega) (whole x hxl) a b ha hb w)
  have C9 : Hid (S + N < 64 → ∃ r, (∀ a b, a = ((S + N : Nat) : Int) → b = ((64 - S - N : Nat) : Int) → ∀ w, Calls Try.prog 30 #[.int .u64 x, .int .i64 a, .int .i64 b] w fun e w' => e = .returned (.int .u64 ((r : Nat) : Int)) ∧ Made w w') ∧
      (∀ a b, a = ((S + N : Nat) : Int) → b = ((64 - S - N : Nat) : Int) → ∀ w, Calls Try.prog 30 #[.int .u64 x0, .int .i64 a, .int .i64 b] w fun e w' => e = .returned (.int .u64 (r : Int)) ∧ Made w w')) := by
    intro h
    refine ⟨getN x0 (S + N) (64 - S - N), fun a b ha hb w => ?_, fun a b ha hb w => ?_⟩
    · exact get_m x (S + N) (64 - S - N) _ hxl (by omega) (by omega) (by rw [← hxe]; exact kept_high _ _ _ _ hgl hSN) a b ha hb w
    · exact get_m x0 (S + N) (64 - S - N) _ hx (by omega) (by omega) rfl a b ha hb w
  have C7 : Hid (1 ≤ S → ∃ lo gu y z : Nat, (∀ a b, a = ((0 : Nat) : Int) → b = (S : Int) → ∀ w, Calls Try.prog 30 #[.int .u64 x, .int .i64 a, .int .i64 b] w fun e w' => e = .returned (.int .u64 (lo : Int)) ∧ Made w w') ∧
      (∀ a b, a = ((0 : Nat) : Int) → b = (S : Int) → ∀ w, Calls Try.prog 30 #[.int .u64 x0, .int .i64 a, .int .i64 b] w fun e w' => e = .returned (.int .u64 (lo : Int)) ∧ Made w w') ∧
      (∀ a b, a = ((0 : Nat) : Int) → b = (S : Int) → ∀ w, Calls Try.prog 30 #[.int .u64 u, .int .i64 a, .int .i64 b] w fun e w' => e = .returned (.int .u64 (gu : Int)) ∧ Made w w') ∧
      (∀ a b, a = ((0 : Nat) : Int) → b = (S : Int) → ∀ w, Calls Try.prog 28 #[.int .u64 x, .int .i64 a, .int .i64 b, .int .u64 (gu : Int)] w fun e w' => e = .returned (.tuple #[.int .u64 (y : Int), .int .i64 0]) ∧ Made w w') ∧
      (∀ a b, a = ((0 : Nat) : Int) → b = (S : Int) → ∀ w, Calls Try.prog 28 #[.int .u64 x0, .int .i64 a, .int .i64 b, .int .u64 (gu : Int)] w fun e w' => e = .returned (.tuple #[.int .u64 (z : Int), .int .i64 0]) ∧ Made w w') ∧
      (∀ a b, a = (S : Int) → b = (N : Int) → ∀ w, Calls Try.prog 28 #[.int .u64 z, .int .i64 a, .int .i64 b, .int .u64 (g : Int)] w fun e w' => e = .returned (.tuple #[.int .u64 (y : Int), .int .i64 0]) ∧ Made w w')) := by
    intro h
    have hgu : getN u 0 S < 2 ^ S := getN_lt _ _ _
    have hz : putN x0 0 S (getN u 0 S) < 2 ^ 64 := putN_lt _ _ _ _ hx (by omega) hgu
    refine ⟨getN x0 0 S, getN u 0 S, putN x 0 S (getN u 0 S), putN x0 0 S (getN u 0 S), fun a b ha hb w => ?_, fun a b ha hb w => ?_, fun a b ha hb w => ?_, fun a b ha hb w => ?_, fun a b ha hb w => ?_, fun a b ha hb w => ?_⟩
    · exact get_m x 0 S _ hxl h (by omega) (by rw [← hxe]; exact kept_low _ _ _ _) a b ha hb w
    · exact get_m x0 0 S _ hx h (by omega) rfl a b ha hb w
    · exact get_m u 0 S _ hu h (by omega) rfl a b ha hb w
    · exact put_m x 0 S _ _ hxl h (by omega) hgu rfl a b ha hb w
    · exact put_m x0 0 S _ _ hx h (by omega) hgu rfl a b ha hb w
    · exact put_m _ S N g _ hz hN1 hSN hgl (by rw [← hxe]; exact (put_comm x0 S N g _ h hgl hgu).symm) a b ha hb w
  clear hg hgl hxe hxl hx hv hu
  go_enter Try.func9, Try.ntmps9
  go_wp2_with fail
  refine (speaks_c _).mono ?_
  rintro e w1 ⟨rfl, hM1⟩
  go_wp2_with fail
  rw [HSe.out, HNe.out, IntWalk.wrap64_in (N : Int) (by omega)]
  refine (C2.out _ _ (by omega) (by omega) _).mono ?_
  rintro e w' ⟨rfl, hM2⟩
  go_wp2_with fail
  refine (C3.out _ _ (by omega) (by omega) _).mono ?_
  rintro e w' ⟨rfl, hM3⟩
  go_wp2_with fail
  refine (C4.out _ _ (by omega) (by omega) _).mono ?_
  rintro e w' ⟨rfl, hM4⟩
  go_wp2_with fail
  refine (C2.out _ _ (by omega) (by omega) _).mono ?_
  rintro e w' ⟨rfl, hM5⟩
  go_wp2_with fail
  refine (C6.out _ _ (by omega) (by omega) _).mono ?_
  rintro e w' ⟨rfl, hM6⟩
  by_cases hS0 : S = 0
  · subst hS0
    by_cases hT : 0 + N < 64
    · obtain ⟨r, E1, E2⟩ := C9.out hT
      have E1' := Lib.hid E1; have E2' := Lib.hid E2
      clear E1 E2
      go_wp2_with fail
      refine (E1'.out _ _ (by omega) (by omega) _).mono ?_
      rintro e w' ⟨rfl, hM7⟩
      go_wp2_with fail
      refine (E2'.out _ _ (by omega) (by omega) _).mono ?_
      rintro e w' ⟨rfl, hM8⟩
      go_wp2_with fail
      go_ret
      exact ⟨rfl, (Made.trans (Made.trans (Made.trans (Made.trans (Made.trans (Made.trans (Made.trans hM1 hM2) hM3) hM4) hM5) hM6) hM7) hM8)⟩
    · go_wp2_with fail
      go_ret
      exact ⟨rfl, (Made.trans (Made.trans (Made.trans (Made.trans (Made.trans hM1 hM2) hM3) hM4) hM5) hM6)⟩
  · obtain ⟨lo, gu, y, z, D1, D2, D3, D4, D5, D6⟩ := C7.out (by omega)
    have D1' := Lib.hid D1; have D2' := Lib.hid D2; have D3' := Lib.hid D3; have D4' := Lib.hid D4; have D5' := Lib.hid D5; have D6' := Lib.hid D6
    clear D1 D2 D3 D4 D5 D6
    by_cases hT : S + N < 64
    · obtain ⟨r, E1, E2⟩ := C9.out hT
      have E1' := Lib.hid E1; have E2' := Lib.hid E2
      clear E1 E2
      go_wp2_with fail
      refine (D1'.out _ _ (by omega) (by omega) _).mono ?_
      rintro e w' ⟨rfl, hM7⟩
      go_wp2_with fail
      refine (D2'.out _ _ (by omega) (by omega) _).mono ?_
      rintro e w' ⟨rfl, hM8⟩
      go_wp2_with fail
      refine (E1'.out _ _ (by omega) (by omega) _).mono ?_
      rintro e w' ⟨rfl, hM9⟩
      go_wp2_with fail
      refine (E2'.out _ _ (by omega) (by omega) _).mono ?_
      rintro e w' ⟨rfl, hM10⟩
      go_wp2_with fail
      refine (D3'.out _ _ (by omega) (by omega) _).mono ?_
      rintro e w' ⟨rfl, hM11⟩
      go_wp2_with fail
      refine (D4'.out _ _ (by omega) (by omega) _).mono ?_
      rintro e w' ⟨rfl, hM12⟩
      go_wp2_with fail
      refine (D3'.out _ _ (by omega) (by omega) _).mono ?_
      rintro e w' ⟨rfl, hM13⟩
      go_wp2_with fail
      refine (D5'.out _ _ (by omega) (by omega) _).mono ?_
      rintro e w' ⟨rfl, hM14⟩
      go_wp2_with fail
      refine (C2.out _ _ (by omega) (by omega) _).mono ?_
      rintro e w' ⟨rfl, hM15⟩
      go_wp2_with fail
      refine (D6'.out _ _ (by omega) (by omega) _).mono ?_
      rintro e w' ⟨rfl, hM16⟩
      go_wp2_with fail
      go_ret
      exact ⟨rfl, (Made.trans (Made.trans (Made.trans (Made.trans (Made.trans (Made.trans (Made.trans (Made.trans (Made.trans (Made.trans (Made.trans (Made.trans (Made.trans (Made.trans (Made.trans hM1 hM2) hM3) hM4) hM5) hM6) hM7) hM8) hM9) hM10) hM11) hM12) hM13) hM14) hM15) hM16)⟩
    · go_wp2_with fail
      refine (D1'.out _ _ (by omega) (by omega) _).mono ?_
      rintro e w' ⟨rfl, hM7⟩
      go_wp2_with fail
      refine (D2'.out _ _ (by omega) (by omega) _).mono ?_
      rintro e w' ⟨rfl, hM8⟩
      go_wp2_with fail
      refine (D3'.out _ _ (by omega) (by omega) _).mono ?_
      rintro e w' ⟨rfl, hM9⟩
      go_wp2_with fail
      refine (D4'.out _ _ (by omega) (by omega) _).mono ?_
      rintro e w' ⟨rfl, hM10⟩
      go_wp2_with fail
      refine (D3'.out _ _ (by omega) (by omega) _).mono ?_
      rintro e w' ⟨rfl, hM11⟩
      go_wp2_with fail
      refine (D5'.out _ _ (by omega) (by omega) _).mono ?_
      rintro e w' ⟨rfl, hM12⟩
      go_wp2_with fail
      refine (C2.out _ _ (by omega) (by omega) _).mono ?_
      rintro e w' ⟨rfl, hM13⟩
      go_wp2_with fail
      refine (D6'.out _ _ (by omega) (by omega) _).mono ?_
      rintro e w' ⟨rfl, hM14⟩
      go_wp2_with fail
      go_ret
      exact ⟨rfl, (Made.trans (Made.trans (Made.trans (Made.trans (Made.trans (Made.trans (Made.trans (Made.trans (Made.trans (Made.trans (Made.trans (Made.trans (Made.trans hM1 hM2) hM3) hM4) hM5) hM6) hM7) hM8) hM9) hM10) hM11) hM12) hM13) hM14)⟩

theorem kept (a s n v u : Int) (w : World) (h0 : (Lit.int .u64 a).wf = true) (h1 : (Lit.int .u8 s).wf = true) (h2 : (Lit.int .u8 n).wf = true) (h3 : (Lit.int .u64 v).wf = true) (h4 : (Lit.int .u64 u).wf = true) :
    Calls Try.prog 9 #[.int .u64 a, .int .u8 s, .int .u8 n, .int .u64 v, .int .u64 u] w fun e w' => e = .returned (.bool true) ∧ Made w w' := by
  obtain ⟨x, rfl, hx⟩ := u64_of h0
  obtain ⟨y, rfl, hy⟩ := u64_of h3
  obtain ⟨z, rfl, hz⟩ := u64_of h4
  simp [Lit.wf, IntKind.min, IntKind.max, IntKind.signed, IntKind.bits] at h1 h2
  exact WordKept_c x y z s n hx hy hz h1 h2 w
end Go.Proofs.Ytdmjokkjhbdnnaa.Law1
