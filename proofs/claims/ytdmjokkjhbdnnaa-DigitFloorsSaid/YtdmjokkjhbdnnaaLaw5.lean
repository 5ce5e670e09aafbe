/- The statements of package knelllaw05 that the print does not take, walked: DigitTells, DigitPlaces, DigitFloors answer true. -/
import Derived.Test.YtdmjokkjhbdnnaaRef5
namespace Go.Proofs.Ytdmjokkjhbdnnaa.Law5
open Go.RowKit Go.Proofs.Ytdmjokkjhbdnnaa Go.Proofs.Ytdmjokkjhbdnnaa.Num Go.Proofs.Ytdmjokkjhbdnnaa.Dig
set_option linter.unusedVariables false
set_option linter.unusedSimpArgs false

set_option maxHeartbeats 1000000 in
theorem RCross_c (n m l b : Int) (w : World) : Calls Try.prog 33 #[.int .i64 n, .int .i64 m, .int .i64 l, .int .i64 b] w fun e w' =>
    e = .returned (.tuple #[.int .i64 (crossOf n m l b).1, .int .i64 (crossOf n m l b).2.1, .bool (crossOf n m l b).2.2]) ∧ Made w w' := by
  have ht := topOf_bd n m b
  have h1 := tm_lt n
  have h2 := tm_lt m
  have hw := wd_bd b
  generalize hT : topOf n m b = T at ht
  have hd1 := dig_bd n l b
  have hd2 := dig_bd m l b
  have hTC : ∀ w : World, Calls Try.prog 25 #[.int .i64 n, .int .i64 m, .int .i64 b] w fun e w' => e = .returned (.int .i64 T) ∧ Made w w' := fun w => by rw [← hT]; exact Ref5.Top_c n m b w
  have HTC := Lib.hid hTC
  have hp : 1 ≤ 2 ^ wd b ∧ 2 ^ wd b ≤ 64 := ⟨Nat.two_pow_pos _, Nat.le_trans (Nat.pow_le_pow_right (n := 2) (by decide) hw.2) (show 2 ^ 6 ≤ 64 by decide)⟩
  have hSC : ∃ p : Nat, 1 ≤ p ∧ p ≤ 64 ∧ Hid (p = 2 ^ wd b) ∧ Hid (∀ w : World, Calls Try.prog 48 #[.int .i64 b] w fun e w' => e = .returned (.int .i64 (p : Int)) ∧ w = w') :=
    ⟨2 ^ wd b, hp.1, hp.2, rfl, fun w => Ref5.Size_c b w⟩
  obtain ⟨p, hp1, hp2, HP, HS⟩ := hSC
  clear hTC hp
  by_cases hc : tm m ≤ tm n
  · have hr := Lib.hid (cross_no (l := l) (b := b) (Or.inl hc))
    clear hT
    by_cases hl : l < 0
    all_goals
      go_enter Try.func33, Try.ntmps33
      go_wp2_with (first | (go_at_call 25; refine (HTC.out _).mono ?_; rintro e w1 ⟨rfl, hM⟩) | (go_at_call 53; refine (Ref5.Time_c _ _).mono ?_; rintro e w' ⟨rfl, rfl⟩))
      go_ret3
      exact ⟨ret3_of hr.out.symm, hM⟩
  · rcases Int.lt_trichotomy T (max l 0) with h | h | h
    · have hr := Lib.hid (cross_no (n := n) (m := m) (l := l) (b := b) (Or.inr (by rw [hT]; exact h)))
      clear hT
      by_cases hl : l < 0
      · have h' : T < 0 := by omega
        go_enter Try.func33, Try.ntmps33
        go_wp2_with (first | (go_at_call 25; refine (HTC.out _).mono ?_; rintro e w1 ⟨rfl, hM⟩) | (go_at_call 53; refine (Ref5.Time_c _ _).mono ?_; rintro e w' ⟨rfl, rfl⟩))
        go_ret3
        exact ⟨ret3_of hr.out.symm, hM⟩
      · have h' : T < l := by omega
        clear h
        go_enter Try.func33, Try.ntmps33
        go_wp2_with (first | (go_at_call 25; refine (HTC.out _).mono ?_; rintro e w1 ⟨rfl, hM⟩) | (go_at_call 53; refine (Ref5.Time_c _ _).mono ?_; rintro e w' ⟨rfl, rfl⟩))
        go_ret3
        exact ⟨ret3_of hr.out.symm, hM⟩
    · have hr := Lib.hid (cross_edge (n := n) (m := m) (l := l) (b := b) hc (by rw [hT]; exact h.symm))
      clear hT
      by_cases hl : l < 0
      · have hm1 := Lib.hid (dig_max n l b hl)
        have hm2 := Lib.hid (dig_max m l b hl)
        have h' : T = 0 := by omega
        subst h'
        clear h
        have hd3 := dig_bd n 0 b
        have hd4 := dig_bd m 0 b
        go_enter Try.func33, Try.ntmps33
        go_wp2_with (first | (go_at_call 25; refine (HTC.out _).mono ?_; rintro e w1 ⟨rfl, hM⟩) | (go_at_call 53; refine (Ref5.Time_c _ _).mono ?_; rintro e w' ⟨rfl, rfl⟩) | (go_at_call 23; refine (Ref5.Digit_c _ _ _ _).mono ?_; rintro e w2 ⟨rfl, hM2⟩))
        go_ret3
        exact ⟨ret3_of (by rw [hr.out, ← hm1.out, ← hm2.out]), Made.trans (Made.trans hM (by assumption)) hM2⟩
      · have h' : T = l := by omega
        subst h'
        clear h
        go_enter Try.func33, Try.ntmps33
        go_wp2_with (first | (go_at_call 25; refine (HTC.out _).mono ?_; rintro e w1 ⟨rfl, hM⟩) | (go_at_call 53; refine (Ref5.Time_c _ _).mono ?_; rintro e w' ⟨rfl, rfl⟩) | (go_at_call 23; refine (Ref5.Digit_c _ _ _ _).mono ?_; rintro e w2 ⟨rfl, hM2⟩))
        go_ret3
        exact ⟨ret3_of (by rw [hr.out]), Made.trans (Made.trans hM (by assumption)) hM2⟩
    · have hr := Lib.hid (cross_all (n := n) (m := m) (l := l) (b := b) hc (by rw [hT]; exact h))
      clear hT
      by_cases hl : l < 0
      all_goals
        have h' : 0 < T := by omega
        have h'' : l < T := by omega
        clear h
        go_enter Try.func33, Try.ntmps33
        go_wp2_with (first | (go_at_call 25; refine (HTC.out _).mono ?_; rintro e w1 ⟨rfl, hM⟩) | (go_at_call 53; refine (Ref5.Time_c _ _).mono ?_; rintro e w' ⟨rfl, rfl⟩) | (go_at_call 48; refine (HS.out _).mono ?_; rintro e w' ⟨rfl, rfl⟩))
        go_ret3
        exact ⟨ret3_of (by rw [hr.out, HP.out]), hM⟩

set_option maxHeartbeats 1000000 in
theorem RPlace_c (n d l b : Int) (w : World) : Calls Try.prog 35 #[.int .i64 n, .int .i64 d, .int .i64 l, .int .i64 b] w fun e w' =>
    e = .returned (.tuple #[.int .i64 (placeOf n d l b).1, .int .i64 (placeOf n d l b).2]) ∧ Made w w' := by
  have ht := topOf_bd n d b
  have h1 := tm_lt n
  have h2 := tm_lt d
  generalize hT : topOf n d b = T at ht
  have hTC : ∀ w : World, Calls Try.prog 25 #[.int .i64 n, .int .i64 d, .int .i64 b] w fun e w' => e = .returned (.int .i64 T) ∧ Made w w' := fun w => by rw [← hT]; exact Ref5.Top_c n d b w
  have HTC := Lib.hid hTC
  clear hTC
  by_cases hc : tm d ≤ tm n
  · have hr : Hid (placeOf n d l b = (-1, -1)) := by show _ = _; unfold placeOf; rw [if_pos hc]
    clear hT
    go_enter Try.func35, Try.ntmps35
    go_wp2_with (first | (go_at_call 53; refine (Ref5.Time_c _ _).mono ?_; rintro e w' ⟨rfl, rfl⟩))
    go_ret2
    exact ⟨ret2_pair hr.out, Made.refl _⟩
  · by_cases hl : T < l
    · have hr : Hid (placeOf n d l b = (T, (dig d T b : Int))) := by show _ = _; unfold placeOf; rw [if_neg hc, hT, if_pos hl]
      clear hT
      go_enter Try.func35, Try.ntmps35
      go_wp2_with (first | (go_at_call 25; refine (HTC.out _).mono ?_; rintro e w1 ⟨rfl, hM⟩) | (go_at_call 53; refine (Ref5.Time_c _ _).mono ?_; rintro e w' ⟨rfl, rfl⟩) | (go_at_call 23; refine (Ref5.Digit_c _ _ _ _).mono ?_; rintro e w2 ⟨rfl, hM2⟩))
      go_ret2
      exact ⟨ret2_pair hr.out, Made.trans hM hM2⟩
    · have hr : Hid (placeOf n d l b = (l, 0)) := by show _ = _; unfold placeOf; rw [if_neg hc, hT, if_neg hl]
      clear hT
      go_enter Try.func35, Try.ntmps35
      go_wp2_with (first | (go_at_call 25; refine (HTC.out _).mono ?_; rintro e w1 ⟨rfl, hM⟩) | (go_at_call 53; refine (Ref5.Time_c _ _).mono ?_; rintro e w' ⟨rfl, rfl⟩))
      go_ret2
      exact ⟨ret2_pair hr.out, hM⟩

theorem ex_top : topOf 27 30 2 = 1 := by rw [topOf_eq (i := 2) (Num.Top.of (by decide) (fun _ => by decide))]; rfl
theorem ex_place : placeOf 27 30 8 2 = (1, 3) := by
  unfold placeOf
  rw [if_neg (by decide), ex_top]
  rfl
theorem ex_d0 : ((dig 27 0 2 : Nat) : Int) = 3 := by decide
theorem ex_d1 : ((dig 27 1 2 : Nat) : Int) = 2 := by decide

set_option maxHeartbeats 1000000 in
theorem speaks_c (w : World) : Calls Try.prog 21 #[] w fun e w' => e = .returned (.bool true) ∧ Made w w' := by
  go_enter Try.func21, Try.ntmps21
  go_wp2_with fail
  refine (Place_c 27 30 8 2 _).mono ?_
  rw [ex_place]
  rintro e w' ⟨rfl, q, rfl⟩
  go_wp2_with fail
  refine (Digit_c 27 0 2 _).mono ?_
  rw [ex_d0]
  rintro e w' ⟨rfl, q2, rfl⟩
  go_wp2_with fail
  refine (Digit_c 27 1 2 _).mono ?_
  rw [ex_d1]
  rintro e w' ⟨rfl, q3, rfl⟩
  go_wp2_with fail
  refine (Top_c 27 30 2 _).mono ?_
  rw [ex_top]
  rintro e w' ⟨rfl, rfl⟩
  go_wp2_with fail
  go_ret
  exact ⟨rfl, Made.drewN w _⟩

set_option maxHeartbeats 1000000 in
theorem DigitTells_c (a c l b : Int) (w : World) : Calls Try.prog 5 #[.int .i64 a, .int .i64 c, .int .i64 l, .int .i64 b] w fun e w' => e = .returned (.bool true) ∧ Made w w' := by
  go_enter Try.func5, Try.ntmps5
  go_wp2_with (first | (go_at_call 21; refine (speaks_c _).mono ?_; rintro e w1 ⟨rfl, hM1⟩) | (go_at_call 22; refine (Dig.Digit_c _ _ _ _).mono ?_; rintro e w' ⟨rfl, q, rfl⟩) | (go_at_call 23; refine (Ref5.Digit_c _ _ _ _).mono ?_; rintro e w2 ⟨rfl, hM2⟩) | (go_at_call 24; refine (Dig.Top_c _ _ _ _).mono ?_; rintro e w' ⟨rfl, rfl⟩) | (go_at_call 25; refine (Ref5.Top_c _ _ _ _).mono ?_; rintro e w3 ⟨rfl, hM3⟩) | (go_at_call 26; refine (Dig.Floor_c _ _ _ _).mono ?_; rintro e w' ⟨rfl, rfl⟩) | (go_at_call 27; refine (Ref5.Floor_c _ _ _ _).mono ?_; rintro e w4 ⟨rfl, hM4⟩))
  go_ret
  exact ⟨rfl, Made.trans (Made.trans (Made.trans (below_drewN hM1 _) hM2) hM3) hM4⟩

set_option maxHeartbeats 1000000 in
theorem DigitPlaces_c (a c l b : Int) (w : World) : Calls Try.prog 10 #[.int .i64 a, .int .i64 c, .int .i64 l, .int .i64 b] w fun e w' => e = .returned (.bool true) ∧ Made w w' := by
  go_enter Try.func10, Try.ntmps10
  generalize hx : crossOf a c l b = x
  generalize hp : placeOf a c l b = p
  have hX := Lib.hid hx; have hP := Lib.hid hp
  clear hx hp
  go_wp2_with (first | (go_at_call 21; refine (speaks_c _).mono ?_; rintro e w1 ⟨rfl, hM1⟩) | (go_at_call 32; refine (Dig.Cross_c a c l b _).mono ?_; rw [hX.out]; rintro e w' ⟨rfl, q, rfl⟩) | (go_at_call 33; refine (RCross_c a c l b _).mono ?_; rw [hX.out]; rintro e w2 ⟨rfl, hM2⟩) | (go_at_call 34; refine (Dig.Place_c a c l b _).mono ?_; rw [hP.out]; rintro e w' ⟨rfl, q, rfl⟩) | (go_at_call 35; refine (RPlace_c a c l b _).mono ?_; rw [hP.out]; rintro e w3 ⟨rfl, hM3⟩))
  go_ret
  exact ⟨rfl, Made.trans (below_drewN (Made.trans (below_drewN hM1 _) hM2) _) hM3⟩

theorem tells (a c l b : Int) (w : World) (_ : (Lit.int .i64 a).wf = true) (_ : (Lit.int .i64 c).wf = true) (_ : (Lit.int .i64 l).wf = true) (_ : (Lit.int .i64 b).wf = true) :
    Calls Try.prog 5 #[.int .i64 a, .int .i64 c, .int .i64 l, .int .i64 b] w fun e w' => e = .returned (.bool true) ∧ Made w w' := DigitTells_c a c l b w
theorem places (a c l b : Int) (w : World) (_ : (Lit.int .i64 a).wf = true) (_ : (Lit.int .i64 c).wf = true) (_ : (Lit.int .i64 l).wf = true) (_ : (Lit.int .i64 b).wf = true) :
    Calls Try.prog 10 #[.int .i64 a, .int .i64 c, .int .i64 l, .int .i64 b] w fun e w' => e = .returned (.bool true) ∧ Made w w' := DigitPlaces_c a c l b w

end Go.Proofs.Ytdmjokkjhbdnnaa.Law5
