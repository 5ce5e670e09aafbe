/- Package knelllaw06, walked: BitsGo. -/
import Derived.Test.YthllplocbciepaaLaw6
namespace Go.Proofs.Ythllplocbciepaa.Law6
open Go.RowKit Go.Proofs.Ythllplocbciepaa Go.Proofs.Ythllplocbciepaa.Num Go.Proofs.Ythllplocbciepaa.SetN Go.Proofs.Ythllplocbciepaa.Bits
set_option linter.unusedVariables false
set_option linter.unusedSimpArgs false

/-- Where the round through a set stands: n slots are behind it, r is the next one, or -1. -/
def At (s n : Nat) (r : Int) : Prop := (r = -1 ∧ n = pop s) ∨ ∃ j : Nat, r = (j : Int) ∧ j < 64 ∧ s.testBit j = true ∧ n = cnt s j
theorem at_from {s : Nat} (hs : s < 2 ^ 64) (a : Int) (b : Nat) (hb : b ≤ 64) (hab : ∀ i : Nat, a ≤ (i : Int) ↔ b ≤ i) : ∃ r : Int, (∀ w : World, Calls Try.prog 18 #[.int .u64 (s : Nat), .int .i64 a] w fun e w' => e = .returned (.int .i64 r) ∧ w = w') ∧ At s (cnt s b) r := by
  rcases next_cases s (64 - b) b (by omega) with ⟨n, h1, h2, h3, h4⟩ | h
  · exact ⟨n, fun w => Next_some s a n hs h3 ((hab n).2 h1) (fun i h5 h6 => h4 i ((hab i).1 h5) h6) w, .inr ⟨n, rfl, h2, h3, (cnt_gap h4 h1).symm⟩⟩
  · exact ⟨-1, fun w => Next_none s a hs (fun i h5 h6 => h i ((hab i).1 h5) h6) w, .inl ⟨rfl, (cnt_gap h hb).symm⟩⟩
theorem next_same {s t : Nat} (hs : s < 2 ^ 64) (ht : t < 2 ^ 64) (k : Nat) (hk : k < 64) (h : ∀ i, t.testBit i = (s.testBit i && decide (k ≤ i))) : ∃ r : Int,
    (∀ w : World, Calls Try.prog 18 #[.int .u64 (t : Nat), .int .i64 0] w fun e w' => e = .returned (.int .i64 r) ∧ w = w') ∧
    (∀ w : World, Calls Try.prog 18 #[.int .u64 (s : Nat), .int .i64 (k : Int)] w fun e w' => e = .returned (.int .i64 r) ∧ w = w') := by
  rcases next_cases s (64 - k) k (by omega) with ⟨n, h1, h2, h3, h4⟩ | h'
  · refine ⟨n, fun w => Next_some t 0 n ht (by rw [h, h3]; simp [h1]) (by omega) (fun i _ h6 => ?_) w, fun w => Next_some s k n hs h3 (by omega) (fun i h5 h6 => h4 i (by omega) h6) w⟩
    rw [h]
    by_cases hki : k ≤ i
    · rw [h4 i hki h6]; simp
    · simp [hki]
  · refine ⟨-1, fun w => Next_none t 0 ht (fun i _ h6 => ?_) w, fun w => Next_none s k hs (fun i h5 h6 => h' i (by omega) h6) w⟩
    rw [h]
    by_cases hki : k ≤ i
    · rw [h' i hki h6]; simp
    · simp [hki]

set_option maxRecDepth 100000 in
set_option maxHeartbeats 4000000 in
theorem go_any (s L H pL pH p : Nat) (r0 r1 : Int) (ka A : Int) (hA : ka % 64 = A) (ha0 : 0 ≤ ka) (hka : ka < 256) (hA0 : 0 ≤ A) (hA1 : A < 64) (hor : bits .or .u64 (L : Int) (H : Int) = (s : Int)) (hand : bits .and .u64 (L : Int) (H : Int) = 0)
    (hp : p ≤ 64) (hpL : pL ≤ 64) (hpH : pH ≤ 64) (hsum : (pL : Int) + (pH : Int) = (p : Int)) (HS : Hid (s < 2 ^ 64)) (HP : Hid (p = pop s)) (HA : Hid (At s 0 r0))
    (c1 : Hid (∀ w : World, Calls Try.prog 16 #[.int .u64 (s : Nat), .int .i64 0, .int .i64 (A - 1)] w fun e w' => e = .returned (.int .u64 (L : Nat)) ∧ w = w'))
    (c2 : Hid (∀ w : World, Calls Try.prog 16 #[.int .u64 (s : Nat), .int .i64 A, .int .i64 63] w fun e w' => e = .returned (.int .u64 (H : Nat)) ∧ w = w'))
    (c3 : Hid (∀ w : World, Calls Try.prog 17 #[.int .u64 (L : Nat)] w fun e w' => e = .returned (.int .i64 (pL : Nat)) ∧ w = w'))
    (c4 : Hid (∀ w : World, Calls Try.prog 17 #[.int .u64 (H : Nat)] w fun e w' => e = .returned (.int .i64 (pH : Nat)) ∧ w = w'))
    (c5 : Hid (∀ w : World, Calls Try.prog 17 #[.int .u64 (s : Nat)] w fun e w' => e = .returned (.int .i64 (p : Nat)) ∧ w = w'))
    (c6 : Hid (∀ w : World, Calls Try.prog 18 #[.int .u64 (s : Nat), .int .i64 (-5)] w fun e w' => e = .returned (.int .i64 r0) ∧ w = w'))
    (c7 : Hid (∀ w : World, Calls Try.prog 18 #[.int .u64 (H : Nat), .int .i64 0] w fun e w' => e = .returned (.int .i64 r1) ∧ w = w'))
    (c8 : Hid (∀ w : World, Calls Try.prog 18 #[.int .u64 (s : Nat), .int .i64 A] w fun e w' => e = .returned (.int .i64 r1) ∧ w = w'))
    (w : World) :
    Calls Try.prog 3 #[.int .u64 (s : Nat), .int .u8 ka] w fun e w' => e = .returned (.bool true) ∧ Made w w' := by
  go_enter Try.func3, Try.ntmps3
  go_wp2_with fail
  refine (speaks_c _).mono ?_
  rintro e w1 ⟨rfl, hM⟩
  go_wp2_with fail
  refine (c1.out _).mono ?_
  rintro e w' ⟨rfl, rfl⟩
  go_wp2_with fail
  refine (c2.out _).mono ?_
  rintro e w' ⟨rfl, rfl⟩
  go_wp2_with fail
  refine (c3.out _).mono ?_
  rintro e w' ⟨rfl, rfl⟩
  go_wp2_with fail
  refine (c4.out _).mono ?_
  rintro e w' ⟨rfl, rfl⟩
  go_wp2_with fail
  refine (c5.out _).mono ?_
  rintro e w' ⟨rfl, rfl⟩
  go_wp2_with fail
  refine (c6.out _).mono ?_
  rintro e w' ⟨rfl, rfl⟩
  go_wp2_with fail
  go_loop [9, 10] (fun n i => ∃ (m : Nat) (r : Int), m ≤ 64 ∧ n = .int .i64 m ∧ i = .int .i64 r ∧ Hid (At s m r)) (fun n _ => (65 - intOf n).toNat)
  case atStart => exact ⟨0, r0, by omega, rfl, rfl, HA⟩
  case round =>
    obtain ⟨m, r, hm, rfl, rfl, HAt⟩ := hrel
    rcases HAt.out with ⟨rfl, hmp⟩ | ⟨j, rfl, hj, hb, hmj⟩
    · have hmp' : (m : Int) = (p : Int) := by rw [hmp, HP.out]
      clear hmp HAt
      go_wp2_with fail
      refine (c5.out _).mono ?_
      rintro e w' ⟨rfl, rfl⟩
      go_wp2_with fail
      refine (c7.out _).mono ?_
      rintro e w' ⟨rfl, rfl⟩
      go_wp2_with fail
      refine (c8.out _).mono ?_
      rintro e w' ⟨rfl, rfl⟩
      go_wp2_with fail
      go_ret
      exact ⟨rfl, hM⟩
    · obtain ⟨r', hr', hat'⟩ := at_from HS.out ((j : Int) + 1) (j + 1) (by omega) (fun i => by omega)
      have d1 := Lib.hid hr'
      have hstep := cnt_step hb
      have HAt' : Hid (At s (m + 1) r') := by show At _ _ _; rw [hmj, ← hstep]; exact hat'
      have hm1 : m + 1 ≤ 64 := by rw [hmj, ← hstep]; exact Nat.le_trans (cnt_le s (j + 1)) (by omega)
      have d2 := hid_has HS.out hj rfl hb
      obtain ⟨O, hO⟩ : ∃ O, takeOut s j = O := ⟨_, rfl⟩
      have hOl : O < 2 ^ 64 := hO ▸ takeOut_lt HS.out
      have d3 := hid_without HS.out hj rfl hO
      have d4 := hid_has (t := false) hOl hj rfl (by rw [← hO, bit_takeOut HS.out hj]; simp)
      have d5 := hid_with (x := s) hOl hj rfl (by rw [← hO, putIn_out HS.out hj, putIn_has hb])
      clear hr' hat' hstep hmj hb hO hOl HAt
      go_wp2_with fail
      refine (d2.out _).mono ?_
      rintro e w' ⟨rfl, rfl⟩
      go_wp2_with fail
      refine (d3.out _).mono ?_
      rintro e w' ⟨rfl, rfl⟩
      go_wp2_with fail
      refine (d4.out _).mono ?_
      rintro e w' ⟨rfl, rfl⟩
      go_wp2_with fail
      refine (d3.out _).mono ?_
      rintro e w' ⟨rfl, rfl⟩
      go_wp2_with fail
      refine (d5.out _).mono ?_
      rintro e w' ⟨rfl, rfl⟩
      go_wp2_with fail
      refine (d1.out _).mono ?_
      rintro e w' ⟨rfl, rfl⟩
      go_wp2_with fail
      go_round
      case rel => exact ⟨m + 1, r', hm1, by go_num, rfl, HAt'⟩
      case measure => simp [intOf]; omega

theorem gos (x ka : Int) (w : World) (h0 : (Lit.int .u64 x).wf = true) (h1 : (Lit.int .u8 ka).wf = true) :
    Calls Try.prog 3 #[.int .u64 x, .int .u8 ka] w fun e w' => e = .returned (.bool true) ∧ Made w w' := by
  obtain ⟨s, rfl, hs⟩ := u64_of h0
  obtain ⟨a0, a1⟩ := u8_of h1
  obtain ⟨a, ha⟩ : ∃ a : Nat, ka % 64 = (a : Int) := ⟨(ka % 64).toNat, by omega⟩
  have la : a < 64 := by omega
  have hL := lowOf_lt s a
  have hH := btw_lt s a 63
  have hpop := cut_pop hs la
  obtain ⟨r0, hr0, hat0⟩ := at_from hs (-5) 0 (by omega) (fun i => by omega)
  obtain ⟨r1, hr1, hr2⟩ := next_same hs hH a la (bit_highOf hs la)
  have hlow : ∀ w : World, Calls Try.prog 16 #[.int .u64 (s : Nat), .int .i64 0, .int .i64 ((a : Int) - 1)] w fun e w' => e = .returned (.int .u64 (lowOf s a : Nat)) ∧ w = w' := by
    intro w
    unfold lowOf
    by_cases h : a = 0
    · rw [if_pos h]
      exact Between_no s 0 _ 0 (-1) (by simp) (by subst h; simp) (by omega) w
    · rw [if_neg h]
      exact Between_yes s 0 (a - 1) 0 _ hs (by simp) (by rw [if_neg (by omega)]; omega) (by omega) (by omega) w
  have hhigh : ∀ w : World, Calls Try.prog 16 #[.int .u64 (s : Nat), .int .i64 (a : Int), .int .i64 63] w fun e w' => e = .returned (.int .u64 (btw s a 63 : Nat)) ∧ w = w' :=
    fun w => Between_yes s a 63 a 63 hs (by rw [if_neg (by omega)]) (by simp) (by omega) (by omega) w
  exact go_any s (lowOf s a) (btw s a 63) (pop (lowOf s a)) (pop (btw s a 63)) (pop s) r0 r1 ka a ha a0 a1 (by omega) (by omega) (by rw [bits_or _ _ hL hH, cut_or hs la]) (by rw [bits_and _ _ hL hH, cut_and hs la]; rfl)
    (pop_le _) (pop_le _) (pop_le _) (by exact_mod_cast hpop) hs rfl hat0 hlow hhigh (fun w => Count_c _ hL w) (fun w => Count_c _ hH w) (fun w => Count_c _ hs w) hr0 hr1 hr2 w
end Go.Proofs.Ythllplocbciepaa.Law6
