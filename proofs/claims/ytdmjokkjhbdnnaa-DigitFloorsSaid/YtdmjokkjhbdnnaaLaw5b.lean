/- DigitFloors, walked: it answers true for every time, level and number of bits. -/
import Derived.Test.YtdmjokkjhbdnnaaLaw5
namespace Go.Proofs.Ytdmjokkjhbdnnaa.Law5
open Go.RowKit Go.Proofs.Ytdmjokkjhbdnnaa Go.Proofs.Ytdmjokkjhbdnnaa.Num Go.Proofs.Ytdmjokkjhbdnnaa.Dig
set_option linter.unusedVariables false
set_option linter.unusedSimpArgs false

/-- What the digits from L on and below k come to. -/
def part (t w L k : Nat) : Nat := t % 2 ^ (w * k) / 2 ^ (w * L) * 2 ^ (w * L)
theorem part_le (t w L k : Nat) : part t w L k ≤ t := Nat.le_trans (Nat.div_mul_le_self _ _) (Nat.mod_le _ _)
theorem part_low (t w L k : Nat) (h : k ≤ L) : part t w L k = 0 := by
  unfold part
  rw [Nat.div_eq_of_lt (Nat.lt_of_lt_of_le (Nat.mod_lt _ (Nat.two_pow_pos _)) (Nat.pow_le_pow_right (by decide) (Nat.mul_le_mul_left w h)))]
  simp
theorem part_step (t w L k : Nat) (h : L ≤ k) : part t w L (k + 1) = part t w L k + t / 2 ^ (w * k) % 2 ^ w * 2 ^ (w * k) := by
  unfold part
  have h1 : t % 2 ^ (w * (k + 1)) = t % 2 ^ (w * k) + 2 ^ (w * k) * (t / 2 ^ (w * k) % 2 ^ w) := by
    rw [Nat.mul_add, Nat.mul_one, Nat.pow_add, Nat.mod_mul]
  have h2 : 2 ^ (w * k) = 2 ^ (w * L) * 2 ^ (w * (k - L)) := by rw [← Nat.pow_add, ← Nat.mul_add]; congr 2; omega
  generalize t / 2 ^ (w * k) % 2 ^ w = d at h1 ⊢
  rw [h1, h2, Nat.mul_assoc, Nat.add_mul_div_left _ _ (Nat.two_pow_pos _), Nat.add_mul]
  congr 1
  rw [Nat.mul_comm (2 ^ (w * (k - L))) d, Nat.mul_assoc, Nat.mul_comm (2 ^ (w * (k - L)))]
theorem part_all (t w L k : Nat) (ht : t < 4294967296) (hk : 32 ≤ w * k) : part t w L k = t / 2 ^ (w * L) * 2 ^ (w * L) := by
  unfold part
  rw [Nat.mod_eq_of_lt (Nat.lt_of_lt_of_le (show t < 2 ^ 32 by omega) (Nat.pow_le_pow_right (by decide) hk))]
theorem digit_up_le (t w k : Nat) : t / 2 ^ (w * k) % 2 ^ w * 2 ^ (w * k) ≤ t :=
  Nat.le_trans (Nat.mul_le_mul_right _ (Nat.mod_le _ _)) (Nat.div_mul_le_self _ _)
/-- A shift to the left that stays within a time. -/
theorem shl_in (d s : Nat) (h : d * 2 ^ s < 4294967296) : wrap64 ((d : Int) * 2 ^ min s 64) = ((d * 2 ^ s : Nat) : Int) := by
  by_cases hs : s ≤ 64
  · rw [Nat.min_eq_left hs, show (d : Int) * 2 ^ s = ((d * 2 ^ s : Nat) : Int) by simp]
    generalize d * 2 ^ s = x at h ⊢
    exact IntWalk.wrap64_in _ (by omega)
  · have hd : d = 0 := by
      rcases Nat.eq_zero_or_pos d with h0 | h0
      · exact h0
      · have h1 : 2 ^ 64 ≤ 2 ^ s := Nat.pow_le_pow_right (by decide) (by omega)
        have h2 : 1 * 2 ^ s ≤ d * 2 ^ s := Nat.mul_le_mul_right _ h0
        omega
    subst hd
    simp
    exact IntWalk.wrap64_in 0 (by omega)

theorem sum_in (s S : Nat) (h : s + S < 4294967296) : wrap64 ((s : Int) + (S : Int)) = ((s + S : Nat) : Int) := IntWalk.wrap64_in _ (by omega)
theorem dig_at (T k B : Nat) (hT : T < 4294967296) (hk : k ≤ 64) (hB : 1 ≤ B) (hB' : B ≤ 6) : dig (T : Int) (k : Int) (B : Int) = T / 2 ^ (B * k) % 2 ^ B := by
  unfold dig sh
  rw [tm_nat T hT, lv_nat k hk, wd_nat B hB hB', Nat.mul_comm k]
theorem flo_at (T k B : Nat) (hT : T < 4294967296) (hk : k ≤ 64) (hB : 1 ≤ B) (hB' : B ≤ 6) : flo (T : Int) (k : Int) (B : Int) = T / 2 ^ (B * k) * 2 ^ (B * k) := by
  unfold flo sh
  rw [tm_nat T hT, lv_nat k hk, wd_nat B hB hB', Nat.mul_comm k]

set_option maxHeartbeats 400000 in
theorem DigitFloors_c (t lv b : Int) (w : World) (ht : 0 ≤ t ∧ t ≤ 4294967295) (hl : 0 ≤ lv ∧ lv ≤ 255) (hb : 0 ≤ b ∧ b ≤ 255) :
    Calls Try.prog 6 #[.int .u32 t, .int .u8 lv, .int .u8 b] w fun e w' => e = .returned (.bool true) ∧ Made w w' := by
  obtain ⟨ht0, ht1⟩ := ht
  obtain ⟨hl0, hl1⟩ := hl
  obtain ⟨hb0, hb1⟩ := hb
  obtain ⟨T, rfl⟩ := Int.eq_ofNat_of_zero_le ht0
  go_enter Try.func6, Try.ntmps6
  go_wp2_with (first | (go_at_call 21; refine (speaks_c _).mono ?_; rintro e w1 ⟨rfl, hM1⟩))
  obtain ⟨B, hBe⟩ : ∃ B : Nat, 1 + b % 6 = (B : Int) := ⟨(1 + b % 6).toNat, by omega⟩
  have hB1 : 1 ≤ B := by omega
  have hB6 : B ≤ 6 := by omega
  rw [hBe]
  clear hBe
  obtain ⟨N, hNe⟩ : ∃ N : Nat, (32 : Int) / (B : Int) = (N : Int) := ⟨32 / B, by simp⟩
  have hN32 : N ≤ 32 := by
    have : N = 32 / B := by have h : ((32 / B : Nat) : Int) = (32 : Int) / (B : Int) := by simp
                            omega
    rw [this]; exact Nat.div_le_self _ _
  rw [hNe]
  obtain ⟨L, hL⟩ : ∃ L : Nat, lv % 9 = (L : Int) := ⟨(lv % 9).toNat, by omega⟩
  have hL9 : L ≤ 8 := by omega
  have hBk : ∀ k : Nat, k ≤ 32 → B * k ≤ 192 := fun k hk => Nat.mul_le_mul hB6 hk
  have HBK := Lib.hid hBk
  have hmul : ∀ k : Nat, k ≤ 32 → (k : Int) * (B : Int) = ((B * k : Nat) : Int) := fun k _ => by rw [Nat.mul_comm]; simp
  have HMUL := Lib.hid hmul
  clear hBk hmul
  go_loopw [8, 21] (fun n i wr => ∃ (k s q : Nat), k ≤ N ∧ i = .int .i64 k ∧ n = .int .i64 s ∧ Hid (s = part T B L k) ∧ wr = w1.drewN q) (fun _ i _ => (N - intOf i).toNat)
  case atStart => exact ⟨0, 0, 0, by omega, rfl, rfl, (part_low T B L 0 (by omega)).symm, rfl⟩
  case round =>
    obtain ⟨k, s, q, hk, rfl, rfl, HS, rfl⟩ := hrel
    by_cases hkN : k < N
    · by_cases hkL : k < L
      · have HS' : Hid (s = part T B L (k + 1)) := by show s = _; rw [HS.out, part_low T B L k (by omega), part_low T B L (k + 1) (by omega)]
        go_wp2
        go_roundw
        case rel => exact ⟨k + 1, s, q, by omega, by go_num, rfl, HS', rfl⟩
        case measure => simp [intOf]; omega
      · have hd := digit_up_le T B k
        have hp := part_le T B L (k + 1)
        have hst := part_step T B L k (by omega)
        have hda := dig_at T k B (by omega) (by omega) hB1 hB6
        obtain ⟨D, hD⟩ : ∃ D, D = dig (T : Int) (k : Int) (B : Int) := ⟨_, rfl⟩
        have HDC : Hid (∀ w : World, Calls Try.prog 22 #[.int .i64 (T : Int), .int .i64 (k : Int), .int .i64 (B : Int)] w fun e w' => e = .returned (.int .i64 (D : Int)) ∧ ∃ n, w' = w.drewN n) := by
          show ∀ w : World, _
          intro w; rw [hD]; exact Digit_c _ _ _ w
        rw [← hda, ← hD] at hd hst
        have hkm := HMUL.out k (by omega)
        have hkb := HBK.out k (by omega)
        have hsh := shl_in D (B * k) (by omega)
        obtain ⟨S, hS⟩ : ∃ S, S = D * 2 ^ (B * k) := ⟨_, rfl⟩
        rw [← hS] at hd hst hsh
        rw [← HS.out] at hst
        clear hD hda hS HS
        obtain ⟨M, hM⟩ : ∃ M, M = B * k := ⟨_, rfl⟩
        rw [← hM] at hsh hkm hkb
        clear hM
        have HSH := Lib.hid hsh
        clear hsh
        have HST := Lib.hid hst
        have hsT : s + S ≤ T := by omega
        clear hst hp
        go_wp2_with (first | (go_at_call 22; refine (HDC.out _).mono ?_; rintro e w' ⟨rfl, qq, rfl⟩))
        go_roundw
        case rel => exact ⟨k + 1, s + S, q + qq, by omega, by go_num, by rw [HSH.out]; exact congrArg _ (sum_in s S (by omega)), HST.out.symm, rfl⟩
        case measure => simp [intOf]; omega
    · obtain rfl : k = N := by omega
      have HN := Lib.hid hNe
      clear hNe
      go_wp2
      rw [HN.out]
      go_loopw [8, 11] (fun n i wr => ∃ (j s q : Nat), k ≤ j ∧ j ≤ 33 ∧ i = .int .i64 j ∧ n = .int .i64 s ∧ Hid (s = part T B L j) ∧ wr = w1.drewN q) (fun _ i _ => (33 - intOf i).toNat)
      case atStart => exact ⟨k, s, q, by omega, by omega, rfl, rfl, HS, rfl⟩
      case round =>
        clear HS
        obtain ⟨j, s, q, hkj, hj, rfl, rfl, HS, rfl⟩ := hrel
        by_cases hjN : j < 33
        · by_cases hjL : j < L
          · have HS' : Hid (s = part T B L (j + 1)) := by show s = _; rw [HS.out, part_low T B L j (by omega), part_low T B L (j + 1) (by omega)]
            go_wp2
            go_roundw
            case rel => exact ⟨j + 1, s, q, by omega, by omega, by go_num, rfl, HS', rfl⟩
            case measure => simp [intOf]; omega
          · have hd := digit_up_le T B j
            have hp := part_le T B L (j + 1)
            have hst := part_step T B L j (by omega)
            have hda := dig_at T j B (by omega) (by omega) hB1 hB6
            obtain ⟨D, hD⟩ : ∃ D, D = dig (T : Int) (j : Int) (B : Int) := ⟨_, rfl⟩
            have HDC : Hid (∀ w : World, Calls Try.prog 22 #[.int .i64 (T : Int), .int .i64 (j : Int), .int .i64 (B : Int)] w fun e w' => e = .returned (.int .i64 (D : Int)) ∧ ∃ n, w' = w.drewN n) := by
              show ∀ w : World, _
              intro w; rw [hD]; exact Digit_c _ _ _ w
            rw [← hda, ← hD] at hd hst
            have hkm := HMUL.out j (by omega)
            have hkb := HBK.out j (by omega)
            have hsh := shl_in D (B * j) (by omega)
            obtain ⟨S, hS⟩ : ∃ S, S = D * 2 ^ (B * j) := ⟨_, rfl⟩
            rw [← hS] at hd hst hsh
            rw [← HS.out] at hst
            clear hD hda hS HS
            obtain ⟨M, hM⟩ : ∃ M, M = B * j := ⟨_, rfl⟩
            rw [← hM] at hsh hkm hkb
            clear hM
            have HSH := Lib.hid hsh
            clear hsh
            have HST := Lib.hid hst
            have hsT : s + S ≤ T := by omega
            clear hst hp
            go_wp2_with (first | (go_at_call 22; refine (HDC.out _).mono ?_; rintro e w' ⟨rfl, qq, rfl⟩))
            go_roundw
            case rel => exact ⟨j + 1, s + S, q + qq, by omega, by omega, by go_num, by rw [HSH.out]; exact congrArg _ (sum_in s S (by omega)), HST.out.symm, rfl⟩
            case measure => simp [intOf]; omega
        · obtain rfl : j = 33 := by omega
          have hLm := HMUL.out L (by omega)
          have hLb : B * L ≤ 48 := Nat.mul_le_mul hB6 hL9
          have hall := part_all T B L 33 (by omega) (by omega)
          have hfl := flo_at T L B (by omega) (by omega) hB1 hB6
          rw [← hfl, ← HS.out] at hall
          have hle : s ≤ T := by rw [hall, hfl]; exact Nat.div_mul_le_self _ _
          have hrem : T - s < 2 ^ (B * L) := by
            rw [hall, hfl]
            have h1 := Nat.div_add_mod T (2 ^ (B * L))
            have h2 := Nat.mod_lt T (Nat.two_pow_pos (B * L))
            rw [Nat.mul_comm] at h1
            omega
          have hidem : flo (s : Int) (L : Int) (B : Int) = s := by
            rw [flo_at s L B (by omega) (by omega) hB1 hB6, hall, hfl, Nat.mul_div_cancel _ (Nat.two_pow_pos _)]
          have HF : Hid (∀ w : World, Calls Try.prog 26 #[.int .i64 (T : Int), .int .i64 (L : Int), .int .i64 (B : Int)] w fun e w' => e = .returned (.int .i64 (s : Int)) ∧ w = w') := by
            show ∀ w : World, _
            intro w; rw [hall]; exact Floor_c _ _ _ w
          have HF2 : Hid (∀ w : World, Calls Try.prog 26 #[.int .i64 (s : Int), .int .i64 (L : Int), .int .i64 (B : Int)] w fun e w' => e = .returned (.int .i64 (s : Int)) ∧ w = w') := by
            show ∀ w : World, _
            intro w
            refine (Floor_c _ _ _ w).mono ?_
            rw [hidem]
            exact fun e w' h => h
          clear hall hfl hidem
          obtain ⟨P, hP⟩ : ∃ P, P = 2 ^ (B * L) := ⟨_, rfl⟩
          have hP48 : P ≤ 2 ^ 48 := by rw [hP]; exact Nat.pow_le_pow_right (by decide) hLb
          rw [← hP] at hrem
          obtain ⟨M, hM⟩ : ∃ M, M = B * L := ⟨_, rfl⟩
          rw [← hM] at hP hLm hLb
          clear hM
          have hlt : (T : Int) - (s : Int) < (P : Int) := by omega
          have hone : wrap64 ((2 : Int) ^ M) = (P : Int) := by
            rw [hP, show ((2 : Int) ^ M) = ((2 ^ M : Nat) : Int) by simp, ← hP]
            exact IntWalk.wrap64_in _ (by omega)
          clear hP HBK HMUL
          have HO := Lib.hid hone
          clear hone
          go_wp2_with fail
          rw [HO.out]
          refine (HF.out _).mono ?_
          rintro e w' ⟨rfl, rfl⟩
          go_wp2_with fail
          refine (HF2.out _).mono ?_
          rintro e w' ⟨rfl, rfl⟩
          go_wp2_with fail
          go_ret
          exact ⟨rfl, below_drewN hM1 _⟩
theorem floors (t l b : Int) (w : World) (h0 : (Lit.int .u32 t).wf = true) (h1 : (Lit.int .u8 l).wf = true) (h2 : (Lit.int .u8 b).wf = true) :
    Calls Try.prog 6 #[.int .u32 t, .int .u8 l, .int .u8 b] w fun e w' => e = .returned (.bool true) ∧ Made w w' := by
  simp [Lit.wf, IntKind.min, IntKind.max, IntKind.signed, IntKind.bits] at h0 h1 h2
  exact DigitFloors_c t l b w h0 h1 h2
end Go.Proofs.Ytdmjokkjhbdnnaa.Law5
