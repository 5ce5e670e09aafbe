/- The word of a list's head: how often it was turned, and its first place; in plain numbers. -/
import Derived.Test.YtndpkonihcebeaaWords
import Derived.Test.YtndpkonihcebeaaOfs
namespace Go.Proofs.Ytndpkonihcebeaa.Wd
open Go.RowKit Go.Proofs.Ytndpkonihcebeaa Go.Proofs.Ytndpkonihcebeaa.Num
set_option linter.unusedVariables false
set_option linter.unusedSimpArgs false

/-- The first place that a head's word tells. -/
def ix (x : Int) : Int := x % 4294967296 - 1
/-- How often it was turned. -/
def ct (x : Int) : Int := x / 4294967296
/-- The word of a head that was turned once more. -/
def turnTo (old first : Int) : Int := if -1 ≤ first ∧ first < 4294967295 then (ct old + 1) % 4294967296 * 4294967296 + (first + 1) else 0
/-- A word. -/
def U64 (x : Int) : Prop := 0 ≤ x ∧ x < 18446744073709551616
theorem turnTo_wide (old first : Int) : U64 (turnTo old first) := by
  unfold turnTo U64
  split <;> omega
theorem ix_turn {old first : Int} (h : -1 ≤ first) (h2 : first < 4294967295) : ix (turnTo old first) = first := by
  unfold turnTo ix
  rw [if_pos ⟨h, h2⟩]
  omega
theorem ix_lo (x : Int) : -1 ≤ ix x ∧ ix x < 4294967295 := by unfold ix; omega
theorem HeadOf_i (x : Int) (hx : U64 x) (w : World) : Calls Try.prog 56 #[.int .u64 x] w fun e w' => e = .returned (.agg #[.int .i64 (ct x), .int .i64 (ix x)]) ∧ Made w w' := by
  obtain ⟨n, rfl⟩ := Int.eq_ofNat_of_zero_le hx.1
  have hn : n < 18446744073709551616 := by have := hx.2; omega
  refine (HeadOf_c n (by omega) w).mono ?_
  rintro e w' ⟨rfl, hm⟩
  refine ⟨?_, hm⟩
  have e1 : ((getN n 32 32 : Nat) : Int) = ct (n : Int) := by unfold getN ct; omega
  have e2 : ((getN n 0 32 : Nat) : Int) - 1 = ix (n : Int) := by unfold getN ix; omega
  rw [e1, e2]
theorem laid32 (c i : Nat) (hc : c < 4294967296) (hi : i < 4294967296) : laid [(32, (c : Int)), (32, (i : Int))] 64 = some (c * 4294967296 + i) := by
  have h1 : 0 ≤ (c : Int) ∧ (c : Int) < 2 ^ 32 := by omega
  have h2 : 0 ≤ (i : Int) ∧ (i : Int) < 2 ^ 32 := by omega
  rw [laid, if_pos h1, show 64 - 32 = 32 from rfl, laid, if_pos h2, show 32 - 32 = 0 from rfl, laid]
  simp only [Option.map_some, Int.toNat_natCast, Nat.pow_zero, Nat.mul_one, Nat.zero_add]
  congr 1
  omega
theorem and32 (x : Nat) (hx : x < 9223372036854775808) : Go.bits .and .i64 (x : Int) 4294967295 = ((x % 4294967296 : Nat) : Int) := by
  have h1 : (BitVec.ofInt 64 (x : Int)).toNat = x := by
    rw [BitVec.ofInt_natCast, BitVec.toNat_ofNat]; exact Nat.mod_eq_of_lt (by omega)
  have h2 : (BitVec.ofInt 64 (4294967295 : Int)).toNat = 2 ^ 32 - 1 := by decide
  show IntKind.i64.wrap ((BitVec.ofInt 64 (x : Int) &&& BitVec.ofInt 64 (4294967295 : Int)).toNat : Int) = _
  rw [BitVec.toNat_and, h1, h2, Nat.and_two_pow_sub_one_eq_mod, IntKind.wrap_i64]
  omega
theorem headPacked_turn (old first : Int) (hx : U64 old) : ((headPacked ((ct old + 1) % 4294967296) first).1 : Int) = turnTo old first := by
  unfold headPacked turnTo
  by_cases h : -1 ≤ first ∧ first < 4294967295
  · rw [if_neg (by omega), if_pos h]
    obtain ⟨c, hc⟩ := Int.eq_ofNat_of_zero_le (show 0 ≤ (ct old + 1) % 4294967296 by omega)
    obtain ⟨i, hi⟩ := Int.eq_ofNat_of_zero_le (show 0 ≤ first + 1 by omega)
    rw [hc, hi, packed_some (laid32 c i (by omega) (by omega))]
    simp only
    omega
  · rw [if_pos (by omega), if_neg h]
    rfl
theorem field0 (x y : Int) (w : World) : (Instr.field 118 (.agg #[.int .i64 x, .int .i64 y]) 0).run Try.prog w = .ok (.int .i64 x) w := by kernel_rfl
theorem field1 (x y : Int) (w : World) : (Instr.field 118 (.agg #[.int .i64 x, .int .i64 y]) 1).run Try.prog w = .ok (.int .i64 y) w := by kernel_rfl
set_option maxRecDepth 100000 in
set_option maxHeartbeats 600000 in
theorem turned_c (old first : Int) (hx : U64 old) (hf : I64 first) (w : World) : Calls Try.prog 143 #[.int .u64 old, .int .i64 first] w fun e w' => e = .returned (.int .u64 (turnTo old first)) ∧ Made w w' := by
  have hb : 0 ≤ ct old ∧ ct old < 4294967296 := by unfold ct; have := hx.1; have := hx.2; omega
  have HA : Hid (Go.bits .and .i64 (ct old + 1) 4294967295 = (ct old + 1) % 4294967296) := by
    show _ = _
    obtain ⟨n, hn⟩ := Int.eq_ofNat_of_zero_le hb.1
    rw [hn, show ((n : Int) + 1) = ((n + 1 : Nat) : Int) by omega, and32 _ (by omega)]
    omega
  have HW := Lib.hid (HeadWord_c ((ct old + 1) % 4294967296) first (by unfold I64; omega) hf)
  have HE := Lib.hid (headPacked_turn old first hx)
  have HH := Lib.hid (HeadOf_i old hx)
  have hb0 := hb.1
  have hb1 := hb.2
  clear hx hf hb
  generalize ct old = q at *
  generalize ix old = r at *
  have hf0 := field0
  go_enter Try.func143, Try.ntmps143
  go_wp2_with fail
  refine (HH.out _).mono ?_
  rintro e w1 ⟨rfl, hm1⟩
  have HM1 := Lib.hid hm1
  clear hm1
  go_wp2_with fail
  rw [HA.out]
  refine (HW.out _).mono ?_
  rintro e w2 ⟨rfl, hm2⟩
  have HM2 := Lib.hid (Made.trans HM1.out hm2)
  clear hm2
  rw [HE.out]
  go_wp2_with fail
  go_ret
  exact ⟨rfl, HM2.out⟩
end Go.Proofs.Ytndpkonihcebeaa.Wd
