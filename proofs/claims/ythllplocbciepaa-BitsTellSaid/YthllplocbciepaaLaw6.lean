/- Package knelllaw06, walked: BitsTurn. -/
import Derived.Test.YthllplocbciepaaBits
namespace Go.Proofs.Ythllplocbciepaa.Law6
open Go.RowKit Go.Proofs.Ythllplocbciepaa Go.Proofs.Ythllplocbciepaa.Num Go.Proofs.Ythllplocbciepaa.SetN Go.Proofs.Ythllplocbciepaa.Bits
set_option linter.unusedVariables false
set_option linter.unusedSimpArgs false

theorem ex_of : ofL [3, 5, 70] = 40 := by decide
theorem of3 (x y z : Int) (b : Nat) (w : World) (h0 : w.cell? ⟨b, 0, none⟩ = some (.int .i64 x)) (h1 : w.cell? ⟨b, 1, none⟩ = some (.int .i64 y)) (h2 : w.cell? ⟨b, 2, none⟩ = some (.int .i64 z)) :
    Calls Try.prog 22 #[.slice (some ⟨b, 0, none⟩) 3 3] w fun e w' => e = .returned (.int .u64 (ofL [x, y, z])) ∧ w = w' := by
  refine Of_c [x, y, z] b (by simp) w ?_
  intro k h
  match k, h with
  | 0, _ => exact h0
  | 1, _ => exact h1
  | 2, _ => exact h2
set_option maxHeartbeats 400000 in
theorem speaks_c (w : World) : Calls Try.prog 15 #[] w fun e w' => e = .returned (.bool true) ∧ Made w w' := by
  have hl : ∀ i : Nat, (4 : Int) ≤ i → i < 5 → (40 : Nat).testBit i = false := by
    intro i h1 h2
    obtain rfl : i = 4 := by omega
    decide
  have hn := fun w => Next_some 40 4 5 (by decide) (by decide) (by decide) hl w
  go_enter Try.func15, Try.ntmps15
  go_wp2_with fail
  refine (of3 3 5 70 _ _ (by go_simp) (by go_simp) (by go_simp)).mono ?_
  rw [ex_of]
  rintro e w' ⟨rfl, rfl⟩
  go_wp2_with fail
  refine (hn _).mono ?_
  rintro e w' ⟨rfl, rfl⟩
  go_wp2_with fail
  go_ret
  exact ⟨rfl, (Made.refl _).alloc (Nat.le_refl _) _⟩

set_option maxRecDepth 100000 in
set_option maxHeartbeats 4000000 in
theorem turn_same (s I O n : Nat) (ka kb A : Int) (hA : ka % 64 = A) (hB : kb % 64 = A) (ha0 : 0 ≤ ka) (hb0 : 0 ≤ kb) (hka : ka < 256) (hkb : kb < 256) (hn : n ≤ 63)  (hs : (s = I) ∨ (s = O ∧ ¬ ((s : Int) = (I : Int)))) (c1 : Hid (∀ w : World, Calls Try.prog 21 #[.int .u64 (s : Nat), .int .i64 A] w fun e w' => e = .returned (.int .u64 (I : Nat)) ∧ w = w')) (c2 : Hid (∀ w : World, Calls Try.prog 20 #[.int .u64 (s : Nat), .int .i64 A] w fun e w' => e = .returned (.int .u64 (O : Nat)) ∧ w = w')) (c3 : Hid (∀ w : World, Calls Try.prog 19 #[.int .u64 (I : Nat), .int .i64 A] w fun e w' => e = .returned (.bool true) ∧ w = w')) (c4 : Hid (∀ w : World, Calls Try.prog 19 #[.int .u64 (O : Nat), .int .i64 A] w fun e w' => e = .returned (.bool false) ∧ w = w')) (c5 : Hid (∀ w : World, Calls Try.prog 20 #[.int .u64 (I : Nat), .int .i64 A] w fun e w' => e = .returned (.int .u64 (O : Nat)) ∧ w = w')) (c6 : Hid (∀ w : World, Calls Try.prog 21 #[.int .u64 (O : Nat), .int .i64 A] w fun e w' => e = .returned (.int .u64 (I : Nat)) ∧ w = w')) (c7 : Hid (∀ w : World, Calls Try.prog 17 #[.int .u64 (I : Nat)] w fun e w' => e = .returned (.int .i64 ((n : Nat) + 1)) ∧ w = w')) (c8 : Hid (∀ w : World, Calls Try.prog 17 #[.int .u64 (O : Nat)] w fun e w' => e = .returned (.int .i64 (n : Nat)) ∧ w = w')) (w : World) :
    Calls Try.prog 4 #[.int .u64 (s : Nat), .int .u8 ka, .int .u8 kb] w fun e w' => e = .returned (.bool true) ∧ Made w w' := by
  rcases hs with rfl | ⟨rfl, hne⟩
  · go_enter Try.func4, Try.ntmps4
    go_wp2_with fail
    refine (speaks_c _).mono ?_
    rintro e w1 ⟨rfl, hM⟩
    go_wp2_with fail
    refine (c1.out _).mono ?_
    rintro e w' ⟨rfl, rfl⟩
    go_wp2_with fail
    refine (c2.out _).mono ?_
    rintro e w' ⟨rfl, rfl⟩
    go_wp2_with fail
    refine (c3.out _).mono ?_
    rintro e w' ⟨rfl, rfl⟩
    go_wp2_with fail
    refine (c4.out _).mono ?_
    rintro e w' ⟨rfl, rfl⟩
    go_wp2_with fail
    refine (c5.out _).mono ?_
    rintro e w' ⟨rfl, rfl⟩
    go_wp2_with fail
    refine (c6.out _).mono ?_
    rintro e w' ⟨rfl, rfl⟩
    go_wp2_with fail
    refine (c7.out _).mono ?_
    rintro e w' ⟨rfl, rfl⟩
    go_wp2_with fail
    refine (c8.out _).mono ?_
    rintro e w' ⟨rfl, rfl⟩
    go_wp2_with fail
    go_ret
    exact ⟨rfl, hM⟩
  · go_enter Try.func4, Try.ntmps4
    go_wp2_with fail
    refine (speaks_c _).mono ?_
    rintro e w1 ⟨rfl, hM⟩
    go_wp2_with fail
    refine (c1.out _).mono ?_
    rintro e w' ⟨rfl, rfl⟩
    go_wp2_with fail
    refine (c2.out _).mono ?_
    rintro e w' ⟨rfl, rfl⟩
    go_wp2_with fail
    refine (c3.out _).mono ?_
    rintro e w' ⟨rfl, rfl⟩
    go_wp2_with fail
    refine (c4.out _).mono ?_
    rintro e w' ⟨rfl, rfl⟩
    go_wp2_with fail
    refine (c5.out _).mono ?_
    rintro e w' ⟨rfl, rfl⟩
    go_wp2_with fail
    refine (c6.out _).mono ?_
    rintro e w' ⟨rfl, rfl⟩
    go_wp2_with fail
    refine (c7.out _).mono ?_
    rintro e w' ⟨rfl, rfl⟩
    go_wp2_with fail
    refine (c8.out _).mono ?_
    rintro e w' ⟨rfl, rfl⟩
    go_wp2_with fail
    go_ret
    exact ⟨rfl, hM⟩
set_option maxRecDepth 100000 in
set_option maxHeartbeats 4000000 in
theorem turn_diff (s I O X Y Z n : Nat) (t : Bool) (ka kb A B : Int) (hA : ka % 64 = A) (hB : kb % 64 = B) (ha0 : 0 ≤ ka) (hb0 : 0 ≤ kb) (hka : ka < 256) (hkb : kb < 256) (hn : n ≤ 63) (hab : ((A : Int) == B) = false) (hs : (s = I) ∨ (s = O ∧ ¬ ((s : Int) = (I : Int)))) (c1 : Hid (∀ w : World, Calls Try.prog 21 #[.int .u64 (s : Nat), .int .i64 A] w fun e w' => e = .returned (.int .u64 (I : Nat)) ∧ w = w')) (c2 : Hid (∀ w : World, Calls Try.prog 20 #[.int .u64 (s : Nat), .int .i64 A] w fun e w' => e = .returned (.int .u64 (O : Nat)) ∧ w = w')) (c3 : Hid (∀ w : World, Calls Try.prog 19 #[.int .u64 (I : Nat), .int .i64 A] w fun e w' => e = .returned (.bool true) ∧ w = w')) (c4 : Hid (∀ w : World, Calls Try.prog 19 #[.int .u64 (O : Nat), .int .i64 A] w fun e w' => e = .returned (.bool false) ∧ w = w')) (c5 : Hid (∀ w : World, Calls Try.prog 20 #[.int .u64 (I : Nat), .int .i64 A] w fun e w' => e = .returned (.int .u64 (O : Nat)) ∧ w = w')) (c6 : Hid (∀ w : World, Calls Try.prog 21 #[.int .u64 (O : Nat), .int .i64 A] w fun e w' => e = .returned (.int .u64 (I : Nat)) ∧ w = w')) (c7 : Hid (∀ w : World, Calls Try.prog 17 #[.int .u64 (I : Nat)] w fun e w' => e = .returned (.int .i64 ((n : Nat) + 1)) ∧ w = w')) (c8 : Hid (∀ w : World, Calls Try.prog 17 #[.int .u64 (O : Nat)] w fun e w' => e = .returned (.int .i64 (n : Nat)) ∧ w = w')) (c9 : Hid (∀ w : World, Calls Try.prog 19 #[.int .u64 (I : Nat), .int .i64 B] w fun e w' => e = .returned (.bool t) ∧ w = w')) (c10 : Hid (∀ w : World, Calls Try.prog 19 #[.int .u64 (O : Nat), .int .i64 B] w fun e w' => e = .returned (.bool t) ∧ w = w')) (c11 : Hid (∀ w : World, Calls Try.prog 19 #[.int .u64 (s : Nat), .int .i64 B] w fun e w' => e = .returned (.bool t) ∧ w = w')) (c12 : Hid (∀ w : World, Calls Try.prog 21 #[.int .u64 (I : Nat), .int .i64 B] w fun e w' => e = .returned (.int .u64 (X : Nat)) ∧ w = w')) (c13 : Hid (∀ w : World, Calls Try.prog 21 #[.int .u64 (s : Nat), .int .i64 B] w fun e w' => e = .returned (.int .u64 (Y : Nat)) ∧ w = w')) (c14 : Hid (∀ w : World, Calls Try.prog 21 #[.int .u64 (Y : Nat), .int .i64 A] w fun e w' => e = .returned (.int .u64 (X : Nat)) ∧ w = w')) (c15 : Hid (∀ w : World, Calls Try.prog 21 #[.int .u64 (O : Nat), .int .i64 B] w fun e w' => e = .returned (.int .u64 (Z : Nat)) ∧ w = w')) (c16 : Hid (∀ w : World, Calls Try.prog 20 #[.int .u64 (Y : Nat), .int .i64 A] w fun e w' => e = .returned (.int .u64 (Z : Nat)) ∧ w = w')) (w : World) :
    Calls Try.prog 4 #[.int .u64 (s : Nat), .int .u8 ka, .int .u8 kb] w fun e w' => e = .returned (.bool true) ∧ Made w w' := by
  rcases hs with rfl | ⟨rfl, hne⟩
  · go_enter Try.func4, Try.ntmps4
    go_wp2_with fail
    refine (speaks_c _).mono ?_
    rintro e w1 ⟨rfl, hM⟩
    go_wp2_with fail
    refine (c1.out _).mono ?_
    rintro e w' ⟨rfl, rfl⟩
    go_wp2_with fail
    refine (c2.out _).mono ?_
    rintro e w' ⟨rfl, rfl⟩
    go_wp2_with fail
    refine (c3.out _).mono ?_
    rintro e w' ⟨rfl, rfl⟩
    go_wp2_with fail
    refine (c4.out _).mono ?_
    rintro e w' ⟨rfl, rfl⟩
    go_wp2_with fail
    refine (c5.out _).mono ?_
    rintro e w' ⟨rfl, rfl⟩
    go_wp2_with fail
    refine (c6.out _).mono ?_
    rintro e w' ⟨rfl, rfl⟩
    go_wp2_with fail
    refine (c7.out _).mono ?_
    rintro e w' ⟨rfl, rfl⟩
    go_wp2_with fail
    refine (c8.out _).mono ?_
    rintro e w' ⟨rfl, rfl⟩
    go_wp2_with fail
    refine (c9.out _).mono ?_
    rintro e w' ⟨rfl, rfl⟩
    go_wp2_with fail
    refine (c11.out _).mono ?_
    rintro e w' ⟨rfl, rfl⟩
    go_wp2_with fail
    refine (c10.out _).mono ?_
    rintro e w' ⟨rfl, rfl⟩
    go_wp2_with fail
    refine (c11.out _).mono ?_
    rintro e w' ⟨rfl, rfl⟩
    go_wp2_with fail
    refine (c1.out _).mono ?_
    rintro e w' ⟨rfl, rfl⟩
    go_wp2_with fail
    refine (c12.out _).mono ?_
    rintro e w' ⟨rfl, rfl⟩
    go_wp2_with fail
    refine (c13.out _).mono ?_
    rintro e w' ⟨rfl, rfl⟩
    go_wp2_with fail
    refine (c14.out _).mono ?_
    rintro e w' ⟨rfl, rfl⟩
    go_wp2_with fail
    refine (c2.out _).mono ?_
    rintro e w' ⟨rfl, rfl⟩
    go_wp2_with fail
    refine (c15.out _).mono ?_
    rintro e w' ⟨rfl, rfl⟩
    go_wp2_with fail
    refine (c13.out _).mono ?_
    rintro e w' ⟨rfl, rfl⟩
    go_wp2_with fail
    refine (c16.out _).mono ?_
    rintro e w' ⟨rfl, rfl⟩
    go_wp2_with fail
    go_ret
    exact ⟨rfl, hM⟩
  · go_enter Try.func4, Try.ntmps4
    go_wp2_with fail
    refine (speaks_c _).mono ?_
    rintro e w1 ⟨rfl, hM⟩
    go_wp2_with fail
    refine (c1.out _).mono ?_
    rintro e w' ⟨rfl, rfl⟩
    go_wp2_with fail
    refine (c2.out _).mono ?_
    rintro e w' ⟨rfl, rfl⟩
    go_wp2_with fail
    refine (c3.out _).mono ?_
    rintro e w' ⟨rfl, rfl⟩
    go_wp2_with fail
    refine (c4.out _).mono ?_
    rintro e w' ⟨rfl, rfl⟩
    go_wp2_with fail
    refine (c5.out _).mono ?_
    rintro e w' ⟨rfl, rfl⟩
    go_wp2_with fail
    refine (c6.out _).mono ?_
    rintro e w' ⟨rfl, rfl⟩
    go_wp2_with fail
    refine (c7.out _).mono ?_
    rintro e w' ⟨rfl, rfl⟩
    go_wp2_with fail
    refine (c8.out _).mono ?_
    rintro e w' ⟨rfl, rfl⟩
    go_wp2_with fail
    refine (c9.out _).mono ?_
    rintro e w' ⟨rfl, rfl⟩
    go_wp2_with fail
    refine (c11.out _).mono ?_
    rintro e w' ⟨rfl, rfl⟩
    go_wp2_with fail
    refine (c10.out _).mono ?_
    rintro e w' ⟨rfl, rfl⟩
    go_wp2_with fail
    refine (c11.out _).mono ?_
    rintro e w' ⟨rfl, rfl⟩
    go_wp2_with fail
    refine (c1.out _).mono ?_
    rintro e w' ⟨rfl, rfl⟩
    go_wp2_with fail
    refine (c12.out _).mono ?_
    rintro e w' ⟨rfl, rfl⟩
    go_wp2_with fail
    refine (c13.out _).mono ?_
    rintro e w' ⟨rfl, rfl⟩
    go_wp2_with fail
    refine (c14.out _).mono ?_
    rintro e w' ⟨rfl, rfl⟩
    go_wp2_with fail
    refine (c2.out _).mono ?_
    rintro e w' ⟨rfl, rfl⟩
    go_wp2_with fail
    refine (c15.out _).mono ?_
    rintro e w' ⟨rfl, rfl⟩
    go_wp2_with fail
    refine (c13.out _).mono ?_
    rintro e w' ⟨rfl, rfl⟩
    go_wp2_with fail
    refine (c16.out _).mono ?_
    rintro e w' ⟨rfl, rfl⟩
    go_wp2_with fail
    go_ret
    exact ⟨rfl, hM⟩
theorem u64_of {a : Int} (h : (Lit.int .u64 a).wf = true) : ∃ x : Nat, a = (x : Int) ∧ x < 2 ^ 64 := by
  simp [Lit.wf, IntKind.min, IntKind.max, IntKind.signed, IntKind.bits] at h
  exact ⟨a.toNat, by omega, by omega⟩
theorem u8_of {a : Int} (h : (Lit.int .u8 a).wf = true) : 0 ≤ a ∧ a < 256 := by
  simp [Lit.wf, IntKind.min, IntKind.max, IntKind.signed, IntKind.bits] at h
  omega
theorem hid_has {s i : Nat} {t : Bool} {A : Int} (hs : s < 2 ^ 64) (h : i < 64) (hA : A = (i : Int)) (ht : s.testBit i = t) :
    Hid (∀ w : World, Calls Try.prog 19 #[.int .u64 (s : Nat), .int .i64 A] w fun e w' => e = .returned (.bool t) ∧ w = w') := by
  show ∀ w : World, _
  intro w
  subst hA ht
  exact Has_yes s i hs h w
theorem hid_with {s i x : Nat} {A : Int} (hs : s < 2 ^ 64) (h : i < 64) (hA : A = (i : Int)) (ht : putIn s i = x) :
    Hid (∀ w : World, Calls Try.prog 21 #[.int .u64 (s : Nat), .int .i64 A] w fun e w' => e = .returned (.int .u64 (x : Nat)) ∧ w = w') := by
  show ∀ w : World, _
  intro w
  subst hA ht
  exact With_yes s i hs h w
theorem hid_without {s i x : Nat} {A : Int} (hs : s < 2 ^ 64) (h : i < 64) (hA : A = (i : Int)) (ht : takeOut s i = x) :
    Hid (∀ w : World, Calls Try.prog 20 #[.int .u64 (s : Nat), .int .i64 A] w fun e w' => e = .returned (.int .u64 (x : Nat)) ∧ w = w') := by
  show ∀ w : World, _
  intro w
  subst hA ht
  exact Without_yes s i hs h w
theorem hid_count {s : Nat} {n : Int} (hs : s < 2 ^ 64) (ht : (pop s : Int) = n) :
    Hid (∀ w : World, Calls Try.prog 17 #[.int .u64 (s : Nat)] w fun e w' => e = .returned (.int .i64 n) ∧ w = w') := by
  show ∀ w : World, _
  intro w
  subst ht
  exact Count_c s hs w

theorem turns (x ka kb : Int) (w : World) (h0 : (Lit.int .u64 x).wf = true) (h1 : (Lit.int .u8 ka).wf = true) (h2 : (Lit.int .u8 kb).wf = true) :
    Calls Try.prog 4 #[.int .u64 x, .int .u8 ka, .int .u8 kb] w fun e w' => e = .returned (.bool true) ∧ Made w w' := by
  obtain ⟨s, rfl, hs⟩ := u64_of h0
  obtain ⟨a0, a1⟩ := u8_of h1
  obtain ⟨b0, b1⟩ := u8_of h2
  obtain ⟨a, ha⟩ : ∃ a : Nat, ka % 64 = (a : Int) := ⟨(ka % 64).toNat, by omega⟩
  obtain ⟨b, hb⟩ : ∃ b : Nat, kb % 64 = (b : Int) := ⟨(kb % 64).toNat, by omega⟩
  have la : a < 64 := by omega
  have lb : b < 64 := by omega
  have hI := putIn_lt hs la
  have hO : takeOut s a < 2 ^ 64 := takeOut_lt hs
  have hp : pop (putIn s a) = pop (takeOut s a) + 1 := pop_putIn hs la
  have hpl := pop_le (putIn s a)
  have hcase : (s = putIn s a) ∨ (s = takeOut s a ∧ ¬ ((s : Int) = (putIn s a : Int))) := by
    cases e : s.testBit a with
    | true => exact .inl (putIn_has e).symm
    | false =>
      refine .inr ⟨(takeOut_hasn't hs la e).symm, ?_⟩
      intro h
      have h' : s = putIn s a := by exact_mod_cast h
      rw [h', bit_putIn] at e
      simp at e
  by_cases hab : a = b
  · subst hab
    exact turn_same s (putIn s a) (takeOut s a) (pop (takeOut s a)) ka kb a ha hb a0 b0 a1 b1 (by omega) hcase (hid_with hs la rfl rfl) (hid_without hs la rfl rfl) (hid_has hI la rfl (by rw [bit_putIn]; simp))
      (hid_has hO la rfl (by rw [bit_takeOut hs la]; simp)) (hid_without hI la rfl (takeOut_in hs la)) (hid_with hO la rfl (putIn_out hs la)) (hid_count hI (by rw [hp]; simp)) (hid_count hO rfl) w
  · have hne : ((a : Int) == (b : Int)) = false := by rw [beq_eq_false_iff_ne]; omega
    exact turn_diff s (putIn s a) (takeOut s a) (putIn (putIn s a) b) (putIn s b) (putIn (takeOut s a) b) (pop (takeOut s a)) (s.testBit b) ka kb a b ha hb a0 b0 a1 b1 (by omega) hne hcase (hid_with hs la rfl rfl) (hid_without hs la rfl rfl) (hid_has hI la rfl (by rw [bit_putIn]; simp))
      (hid_has hO la rfl (by rw [bit_takeOut hs la]; simp)) (hid_without hI la rfl (takeOut_in hs la)) (hid_with hO la rfl (putIn_out hs la)) (hid_count hI (by rw [hp]; simp)) (hid_count hO rfl)
      (hid_has hI lb rfl (by rw [bit_putIn]; simp [hab])) (hid_has hO lb rfl (by rw [bit_takeOut hs la]; simp [hab])) (hid_has hs lb rfl rfl)
      (hid_with hI lb rfl rfl) (hid_with hs lb rfl rfl) (hid_with (putIn_lt hs lb) la rfl (putIn_comm s b a)) (hid_with hO lb rfl rfl) (hid_without (putIn_lt hs lb) la rfl (putOut_comm hs la lb hab).symm) w
end Go.Proofs.Ythllplocbciepaa.Law6
