-- PRINTED BY print.sh 35421559b90ae4d0a3588c463048766b98c2df88dd9212a6774a882060cdf62d: not written by this session
import Derived.Test.YtdmjokkjhbdnnaaPDigitOrdersx0
namespace Go.Proofs.Ytdmjokkjhbdnnaa.PDigitOrders
open Go.RowKit Go.Proofs.YtdmjokkjhbdnnaaW.PrintWords Go.Proofs.YtdmjokkjhbdnnaaW.PrintLast Go.Proofs.YtdmjokkjhbdnnaaW.PrintMore
attribute [local go_sem] max2_int min2_int max_two min_two max_three min_three max_four min_four   -- for this text's walks alone
set_option linter.unusedVariables false
set_option linter.unusedSimpArgs false

/-! ### digit_time: function 44 -/
def digit_time.f (a0 : Int) : Option (Int) := some (mn (mx a0 0) 4294967295)
set_option maxHeartbeats 8000000 in
set_option maxRecDepth 100000 in
theorem digit_time.calls (a0 : Int) (r : Int) (w : World) (h : digit_time.f a0 = some r) :
    Calls Try.prog 44 #[.int .i64 a0] w fun e w' => e = .returned (.int .u64 r) ∧ Below w.heap.size w w' := by
  have HB := Aside0.mk (Below.refl w.heap.size w)
  have H : (some (mn (mx a0 0) 4294967295)) = some r := h
  clear h
  obtain ⟨ji2, hji2⟩ : ∃ j_ : Int, (mx a0 0) = j_ := ⟨_, rfl⟩
  replace H : (some (mn (ji2) 4294967295)) = some r := by first | (rw [hji2] at H; exact H) | (simp only [hji2] at H ⊢; exact H)
  (try (have hji2l : 0 ≤ ji2 := by (rw [← hji2]; unfold mx; (repeat' split) <;> omega)))
  (try (have hji2m : 0 ≤ ji2 := by omega))
  have hji2_ : (if a0 < 0 then 0 else a0) = ji2 := hji2
  obtain ⟨ji3, hji3⟩ : ∃ j_ : Int, (mn (ji2) 4294967295) = j_ := ⟨_, rfl⟩
  replace H : (some ji3) = some r := by first | (rw [hji3] at H; exact H) | (simp only [hji3] at H ⊢; exact H)
  have hji3_ : (if 4294967295 < (ji2) then 4294967295 else (ji2)) = ji3 := hji3
  obtain rfl := Option.some.inj H
  go_enter Try.func44, Try.ntmps44
  go_wp2
  go_ret
  exact ⟨by first | rfl | (simp [errW_none, errW_some] <;> rfl) | (simp only [← hji2, ← hji3]; first | rfl | (simp [errW_none, errW_some] <;> rfl)) | (simp [*, errW_none, errW_some] <;> rfl), by repeat (first | (with_reducible first | exact HB.out | apply below_alloc | apply pw_below_drewN | apply below_drew1) | exact HB.out)⟩

/-! ### digit_width: function 46 -/
def digit_width.f (a0 : Int) : Option (Int) := some (mn (mx a0 1) 6)
set_option maxHeartbeats 8000000 in
set_option maxRecDepth 100000 in
theorem digit_width.calls (a0 : Int) (r : Int) (w : World) (h : digit_width.f a0 = some r) :
    Calls Try.prog 46 #[.int .i64 a0] w fun e w' => e = .returned (.int .i64 r) ∧ Below w.heap.size w w' := by
  have HB := Aside0.mk (Below.refl w.heap.size w)
  have H : (some (mn (mx a0 1) 6)) = some r := h
  clear h
  obtain ⟨ji2, hji2⟩ : ∃ j_ : Int, (mx a0 1) = j_ := ⟨_, rfl⟩
  replace H : (some (mn (ji2) 6)) = some r := by first | (rw [hji2] at H; exact H) | (simp only [hji2] at H ⊢; exact H)
  (try (have hji2l : 1 ≤ ji2 := by (rw [← hji2]; unfold mx; (repeat' split) <;> omega)))
  (try (have hji2m : 0 ≤ ji2 := by omega))
  have hji2_ : (if a0 < 1 then 1 else a0) = ji2 := hji2
  obtain ⟨ji3, hji3⟩ : ∃ j_ : Int, (mn (ji2) 6) = j_ := ⟨_, rfl⟩
  replace H : (some ji3) = some r := by first | (rw [hji3] at H; exact H) | (simp only [hji3] at H ⊢; exact H)
  have hji3_ : (if 6 < (ji2) then 6 else (ji2)) = ji3 := hji3
  obtain rfl := Option.some.inj H
  go_enter Try.func46, Try.ntmps46
  go_wp2
  go_ret
  exact ⟨by first | rfl | (simp [errW_none, errW_some] <;> rfl) | (simp only [← hji2, ← hji3]; first | rfl | (simp [errW_none, errW_some] <;> rfl)) | (simp [*, errW_none, errW_some] <;> rfl), by repeat (first | (with_reducible first | exact HB.out | apply below_alloc | apply pw_below_drewN | apply below_drew1) | exact HB.out)⟩

/-! ### digit_shift: function 45 -/
def digit_shift.f (a0 : Int) (a1 : Int) : Option (Int) := (digit_width.f a1).bind fun t101 => (some (wrap64 ((mn (mx a0 0) 64) * t101)))
set_option maxHeartbeats 8000000 in
set_option maxRecDepth 100000 in
theorem digit_shift.calls (a0 : Int) (a1 : Int) (r : Int) (w : World) (h : digit_shift.f a0 a1 = some r) :
    Calls Try.prog 45 #[.int .i64 a0, .int .i64 a1] w fun e w' => e = .returned (.int .i64 r) ∧ Below w.heap.size w w' := by
  have HB := Aside0.mk (Below.refl w.heap.size w)
  have H : ((digit_width.f a1).bind fun t101 => (some (wrap64 ((mn (mx a0 0) 64) * t101)))) = some r := h
  clear h
  obtain ⟨ji3, hji3⟩ : ∃ j_ : Int, (mx a0 0) = j_ := ⟨_, rfl⟩
  replace H : ((digit_width.f a1).bind fun t101 => (some (wrap64 ((mn (ji3) 64) * t101)))) = some r := by first | (rw [hji3] at H; exact H) | (simp only [hji3] at H ⊢; exact H)
  (try (have hji3l : 0 ≤ ji3 := by (rw [← hji3]; unfold mx; (repeat' split) <;> omega)))
  (try (have hji3m : 0 ≤ ji3 := by omega))
  have hji3_ : (if a0 < 0 then 0 else a0) = ji3 := hji3
  obtain ⟨ji4, hji4⟩ : ∃ j_ : Int, (mn (ji3) 64) = j_ := ⟨_, rfl⟩
  replace H : ((digit_width.f a1).bind fun t101 => (some (wrap64 ((ji4) * t101)))) = some r := by first | (rw [hji4] at H; exact H) | (simp only [hji4] at H ⊢; exact H)
  have hji4_ : (if 64 < (ji3) then 64 else (ji3)) = ji4 := hji4
  replace H := Option.bind_eq_some_iff.mp H
  obtain ⟨t101, A50, H⟩ := H
  replace H : (some (wrap64 ((ji4) * t101))) = some r := H
  have A5 := Aside0.mk A50
  clear A50
  obtain rfl := Option.some.inj H
  go_enter Try.func45, Try.ntmps45
  go_wp2_with (first | ((with_reducible refine gate_callee (f := 46) rfl ?_); refine goesL_ (some 9) rfl rfl Try.func46 (by kernel_rfl) rfl #[.int .i64 a1] rfl (by (try simp only [List.map_toArray, List.map_cons, List.map_nil]); first | done | rfl | (simp only [List.length_drop, List.length_take]; rfl)) ?_; (with_reducible refine (digit_width.calls a1 t101 _ A5.out).mono ?_); rintro e w6 ⟨rfl, hb⟩; refine ⟨_, rfl, ?_⟩; have n0_ := Aside0.mk (below_step (by repeat (first | (with_reducible first | exact HB.out | apply below_alloc | apply pw_below_drewN | apply below_drew1) | exact HB.out)) hb); clear HB; have HB := n0_; clear n0_; (try clear hb); (try clear hb2); (try clear hk); (try clear hi)))
  go_ret
  exact ⟨by first | rfl | (simp [errW_none, errW_some] <;> rfl) | (simp only [← hji3, ← hji4]; first | rfl | (simp [errW_none, errW_some] <;> rfl)) | (simp [*, errW_none, errW_some] <;> rfl), by repeat (first | (with_reducible first | exact HB.out | apply below_alloc | apply pw_below_drewN | apply below_drew1) | exact HB.out)⟩

/-! ### digit_Digit: function 22 -/
def digit_Digit.f (a0 : Int) (a1 : Int) (a2 : Int) : Option (Int) := (digit_time.f a0).bind fun t102 => ((digit_shift.f a1 a2).bind fun t103 => (if 0 ≤ t103 then ((digit_width.f a2).bind fun t104 => (if 0 ≤ t104 then (some (wrap64 (Go.bits .and .u64 (shr .u64 t102 t103) (IntKind.u64.wrap ((shl .u64 1 t104) - 1))))) else (none))) else (none)))
def digit_Digit.T1 : Bool × List (List Nat × List Nat) := (true, [([], []), ([0], [0]), ([], []), ([], []), ([2, 3, 1], [2, 3]), ([1, 4], [1, 4]), ([], []), ([6, 4], [6]), ([7], [7]), ([8], [8]), ([5, 9], [5, 9]), ([10], [10]), ([11, 7, 0, 1, 2, 3, 4, 5, 6, 7, 8, 9, 10, 11], [11])])
def digit_Digit.B1 : List Nat := [0, 1, 0, 0, 15, 31, 0, 95, 223, 479, 1023, 2047, 4095]
theorem digit_Digit.tab1 : rtab .any (opsOf Try.f22 1) = digit_Digit.T1 := by kernel_rfl
theorem digit_Digit.bits1 : waitsOk digit_Digit.T1.2 digit_Digit.B1 = true := by kernel_rfl
set_option maxHeartbeats 8000000 in
set_option maxRecDepth 100000 in
theorem digit_Digit.calls (a0 : Int) (a1 : Int) (a2 : Int) (r : Int) (w : World) (h : digit_Digit.f a0 a1 a2 = some r) :
    Calls Try.prog 22 #[.int .i64 a0, .int .i64 a1, .int .i64 a2] w fun e w' => e = .returned (.int .i64 r) ∧ Below w.heap.size w w' := by
  have HB := Aside0.mk (Below.refl w.heap.size w)
  have H : ((digit_time.f a0).bind fun t102 => ((digit_shift.f a1 a2).bind fun t103 => (if 0 ≤ t103 then ((digit_width.f a2).bind fun t104 => (if 0 ≤ t104 then (some (wrap64 (Go.bits .and .u64 (shr .u64 t102 t103) (IntKind.u64.wrap ((shl .u64 1 t104) - 1))))) else (none))) else (none)))) = some r := h
  clear h
  replace H := Option.bind_eq_some_iff.mp H
  obtain ⟨t102, A40, H⟩ := H
  replace H : ((digit_shift.f a1 a2).bind fun t103 => (if 0 ≤ t103 then ((digit_width.f a2).bind fun t104 => (if 0 ≤ t104 then (some (wrap64 (Go.bits .and .u64 (shr .u64 t102 t103) (IntKind.u64.wrap ((shl .u64 1 t104) - 1))))) else (none))) else (none))) = some r := H
  have A4 := Aside0.mk A40
  clear A40
  replace H := Option.bind_eq_some_iff.mp H
  obtain ⟨t103, A50, H⟩ := H
  replace H : (if 0 ≤ t103 then ((digit_width.f a2).bind fun t104 => (if 0 ≤ t104 then (some (wrap64 (Go.bits .and .u64 (shr .u64 t102 t103) (IntKind.u64.wrap ((shl .u64 1 t104) - 1))))) else (none))) else (none)) = some r := H
  have A5 := Aside0.mk A50
  clear A50
  by_cases c6 : 0 ≤ t103
  · rw [if_pos c6] at H
    have c6b0 := eq_true c6
    have c6b1 : decide (0 ≤ t103) = true := decide_eq_true c6
    clear c6
    obtain ⟨ji7, hji7⟩ : ∃ j_ : Int, (shr .u64 t102 t103) = j_ := ⟨_, rfl⟩
    replace H : ((digit_width.f a2).bind fun t104 => (if 0 ≤ t104 then (some (wrap64 (Go.bits .and .u64 (ji7) (IntKind.u64.wrap ((shl .u64 1 t104) - 1))))) else (none))) = some r := by first | (rw [hji7] at H; exact H) | (simp only [hji7] at H ⊢; exact H)
    (try rw [hji7] at A4)
    (try rw [hji7] at A5)
    have hji7_ : (t102 / 2 ^ min t103.toNat 64) = ji7 := hji7
    have hji7z : t103 ≤ 64 → (t102 / 2 ^ t103.toNat) = ji7 := shr_small hji7
    replace H := Option.bind_eq_some_iff.mp H
    obtain ⟨t104, A80, H⟩ := H
    replace H : (if 0 ≤ t104 then (some (wrap64 (Go.bits .and .u64 (ji7) (IntKind.u64.wrap ((shl .u64 1 t104) - 1))))) else (none)) = some r := H
    have A8 := Aside0.mk A80
    clear A80
    by_cases c9 : 0 ≤ t104
    · rw [if_pos c9] at H
      have c9b0 := eq_true c9
      have c9b1 : decide (0 ≤ t104) = true := decide_eq_true c9
      clear c9
      obtain ⟨ji10, hji10⟩ : ∃ j_ : Int, (shl .u64 1 t104) = j_ := ⟨_, rfl⟩
      replace H : (some (wrap64 (Go.bits .and .u64 (ji7) (IntKind.u64.wrap ((ji10) - 1))))) = some r := by first | (rw [hji10] at H; exact H) | (simp only [hji10] at H ⊢; exact H)
      (try rw [hji10] at A4)
      (try rw [hji10] at A5)
      (try rw [hji10] at A8)
      have hji10_ : (IntKind.u64.wrap (1 * 2 ^ min t104.toNat 64)) = ji10 := hji10
      have hji10z : t104 ≤ 64 → (IntKind.u64.wrap (1 * 2 ^ t104.toNat)) = ji10 := shl_small hji10
      have hji10u : (IntKind.u64.wrap (2 ^ min t104.toNat 64)) = ji10 := by have h_ := hji10_; rw [Int.one_mul] at h_; exact h_
      have hji10v : t104 ≤ 64 → (IntKind.u64.wrap (2 ^ t104.toNat)) = ji10 := fun hle_ => by have h_ := hji10z hle_; rw [Int.one_mul] at h_; exact h_
      obtain rfl := Option.some.inj H
      go_enter Try.func22, Try.ntmps22
      try go_wp2
      have n0_ := Aside0.mk (below_drew1 HB.out)
      clear HB
      have HB := n0_
      clear n0_
      refine start_ (n := 13) (S := fun w' => True) (ds := []) #[false, false, false, false, false, false, false, false, false, false, false, false, false] (by kernel_rfl) rfl rfl trivial (fun hHeld => ?_); refine with_tabW digit_Digit.tab1 digit_Digit.bits1 (fun HT_ HW_ => ?_)
      generalize w.drew = w11 at HB hHeld ⊢
      refine pure_ (i := 0) (N := some 7) (v := ?_) (a' := ?_) #[true, false, false, false, false, false, false, false, false, false, false, false, false] rfl rfl (any_of HT_.out (by kernel_rfl)) (fun _ _ _ h => h) (Or.inl ⟨by rfl, ?_⟩) ?_ ?_
      rotate_left
      · intro w'
        go_simp
        with_reducible rfl
      rotate_left
      · simp only [Act.put, List.setIfInBounds_toArray, List.set_cons_zero, List.set_cons_succ, i64_w, i32_w]
        rfl
      refine pure_ (i := 2) (N := some 9) (v := ?_) (a' := ?_) #[true, false, true, false, false, false, false, false, false, false, false, false, false] rfl rfl (any_of HT_.out (by kernel_rfl)) (fun _ _ _ h => h) (Or.inl ⟨by rfl, ?_⟩) ?_ ?_
      rotate_left
      · intro w'
        go_simp
        with_reducible rfl
      rotate_left
      · simp only [Act.put, List.setIfInBounds_toArray, List.set_cons_zero, List.set_cons_succ, i64_w, i32_w]
        rfl
      refine pure_ (i := 3) (N := some 10) (v := ?_) (a' := ?_) #[true, false, true, true, false, false, false, false, false, false, false, false, false] rfl rfl (any_of HT_.out (by kernel_rfl)) (fun _ _ _ h => h) (Or.inl ⟨by rfl, ?_⟩) ?_ ?_
      rotate_left
      · intro w'
        go_simp
        with_reducible rfl
      rotate_left
      · simp only [Act.put, List.setIfInBounds_toArray, List.set_cons_zero, List.set_cons_succ, i64_w, i32_w]
        rfl
      refine pure_ (i := 6) (N := some 13) (v := ?_) (a' := ?_) #[true, false, true, true, false, false, true, false, false, false, false, false, false] rfl rfl (any_of HT_.out (by kernel_rfl)) (fun _ _ _ h => h) (Or.inl ⟨by rfl, ?_⟩) ?_ ?_
      rotate_left
      · intro w'
        go_simp
        with_reducible rfl
      rotate_left
      · simp only [Act.put, List.setIfInBounds_toArray, List.set_cons_zero, List.set_cons_succ, i64_w, i32_w]
        rfl
      refine one_ (i := 1) (N := some 8) #[true, true, true, true, false, false, true, false, false, false, false, false, false] rfl rfl (one_of HT_.out (by kernel_rfl)) (by decide) (fun K hK => ?_)
      refine goes_ Try.func44 (by kernel_rfl) rfl #[.int .i64 a0] (by rfl) rfl rfl (by (try simp only [List.map_toArray, List.map_cons, List.map_nil]); first | done | rfl | (simp only [List.length_drop, List.length_take]; rfl)) ?_
      with_reducible refine (digit_time.calls a0 t102 _ A4.out).mono ?_
      rintro e w12 ⟨rfl, hb⟩
      refine ⟨_, rfl, ?_⟩
      have n0_ := Aside0.mk (below_step (by repeat (first | (with_reducible first | exact HB.out | apply below_alloc | apply pw_below_drewN | apply below_drew1) | exact HB.out)) hb)
      clear HB
      have HB := n0_
      clear n0_
      (try clear hb)
      (try clear hb2)
      (try clear hk)
      (try clear hi)
      refine hK.out _ _ trivial (fun hHeld => ?_)
      clear hK K
      refine norm_ (a' := ?_) ?_ ?_
      rotate_left
      · show Act.put _ (some 8) _ = _
        simp only [Act.put, List.setIfInBounds_toArray, List.set_cons_zero, List.set_cons_succ, i64_w, i32_w]
        rfl
      refine one_ (i := 4) (N := some 11) #[true, true, true, true, true, false, true, false, false, false, false, false, false] rfl rfl (one_of HT_.out (by kernel_rfl)) (by decide) (fun K hK => ?_)
      refine goes_ Try.func45 (by kernel_rfl) rfl #[.int .i64 a1, .int .i64 a2] (by rfl) rfl rfl (by (try simp only [List.map_toArray, List.map_cons, List.map_nil]); first | done | rfl | (simp only [List.length_drop, List.length_take]; rfl)) ?_
      with_reducible refine (digit_shift.calls a1 a2 t103 _ A5.out).mono ?_
      rintro e w13 ⟨rfl, hb⟩
      refine ⟨_, rfl, ?_⟩
      have n0_ := Aside0.mk (below_step (by repeat (first | (with_reducible first | exact HB.out | apply below_alloc | apply pw_below_drewN | apply below_drew1) | exact HB.out)) hb)
      clear HB
      have HB := n0_
      clear n0_
      (try clear hb)
      (try clear hb2)
      (try clear hk)
      (try clear hi)
      refine hK.out _ _ trivial (fun hHeld => ?_)
      clear hK K
      refine norm_ (a' := ?_) ?_ ?_
      rotate_left
      · show Act.put _ (some 11) _ = _
        simp only [Act.put, List.setIfInBounds_toArray, List.set_cons_zero, List.set_cons_succ, i64_w, i32_w]
        rfl
      refine pure_ (i := 5) (N := some 12) (v := ?_) (a' := ?_) #[true, true, true, true, true, true, true, false, false, false, false, false, false] rfl rfl (any_of HT_.out (by kernel_rfl)) (fun _ _ _ h => h) (Or.inl ⟨by rfl, ?_⟩) ?_ ?_
      rotate_left
      · intro w'
        go_simp
        with_reducible rfl
      rotate_left
      · simp only [Act.put, List.setIfInBounds_toArray, List.set_cons_zero, List.set_cons_succ, i64_w, i32_w]
        rfl
      refine one_ (i := 7) (N := some 14) #[true, true, true, true, true, true, true, true, false, false, false, false, false] rfl rfl (one_of HT_.out (by kernel_rfl)) (by decide) (fun K hK => ?_)
      refine goes_ Try.func46 (by kernel_rfl) rfl #[.int .i64 a2] (by rfl) rfl rfl (by (try simp only [List.map_toArray, List.map_cons, List.map_nil]); first | done | rfl | (simp only [List.length_drop, List.length_take]; rfl)) ?_
      with_reducible refine (digit_width.calls a2 t104 _ A8.out).mono ?_
      rintro e w14 ⟨rfl, hb⟩
      refine ⟨_, rfl, ?_⟩
      have n0_ := Aside0.mk (below_step (by repeat (first | (with_reducible first | exact HB.out | apply below_alloc | apply pw_below_drewN | apply below_drew1) | exact HB.out)) hb)
      clear HB
      have HB := n0_
      clear n0_
      (try clear hb)
      (try clear hb2)
      (try clear hk)
      (try clear hi)
      refine hK.out _ _ trivial (fun hHeld => ?_)
      clear hK K
      refine norm_ (a' := ?_) ?_ ?_
      rotate_left
      · show Act.put _ (some 14) _ = _
        simp only [Act.put, List.setIfInBounds_toArray, List.set_cons_zero, List.set_cons_succ, i64_w, i32_w]
        rfl
      refine pure_ (i := 8) (N := some 15) (v := ?_) (a' := ?_) #[true, true, true, true, true, true, true, true, true, false, false, false, false] rfl rfl (any_of HT_.out (by kernel_rfl)) (fun _ _ _ h => h) (Or.inl ⟨by rfl, ?_⟩) ?_ ?_
      rotate_left
      · intro w'
        go_simp
        with_reducible rfl
      rotate_left
      · simp only [Act.put, List.setIfInBounds_toArray, List.set_cons_zero, List.set_cons_succ, i64_w, i32_w]
        rfl
      refine pure_ (i := 9) (N := some 16) (v := ?_) (a' := ?_) #[true, true, true, true, true, true, true, true, true, true, false, false, false] rfl rfl (any_of HT_.out (by kernel_rfl)) (fun _ _ _ h => h) (Or.inl ⟨by rfl, ?_⟩) ?_ ?_
      rotate_left
      · intro w'
        go_simp
        with_reducible rfl
      rotate_left
      · simp only [Act.put, List.setIfInBounds_toArray, List.set_cons_zero, List.set_cons_succ, i64_w, i32_w]
        rfl
      refine pure_ (i := 10) (N := some 17) (v := ?_) (a' := ?_) #[true, true, true, true, true, true, true, true, true, true, true, false, false] rfl rfl (any_of HT_.out (by kernel_rfl)) (fun _ _ _ h => h) (Or.inl ⟨by rfl, ?_⟩) ?_ ?_
      rotate_left
      · intro w'
        go_simp
        with_reducible rfl
      rotate_left
      · simp only [Act.put, List.setIfInBounds_toArray, List.set_cons_zero, List.set_cons_succ, i64_w, i32_w]
        rfl
      refine pure_ (i := 11) (N := some 18) (v := ?_) (a' := ?_) #[true, true, true, true, true, true, true, true, true, true, true, true, false] rfl rfl (any_of HT_.out (by kernel_rfl)) (fun _ _ _ h => h) (Or.inl ⟨by rfl, ?_⟩) ?_ ?_
      rotate_left
      · intro w'
        go_simp
        with_reducible rfl
      rotate_left
      · simp only [Act.put, List.setIfInBounds_toArray, List.set_cons_zero, List.set_cons_succ, i64_w, i32_w]
        rfl
      refine pure_ (i := 12) (N := some 6) (v := ?_) (a' := ?_) #[true, true, true, true, true, true, true, true, true, true, true, true, true] rfl rfl (any_of HT_.out (by kernel_rfl)) (fun _ _ _ h => h) (Or.inl ⟨by rfl, ?_⟩) ?_ ?_
      rotate_left
      · intro w'
        go_simp
        with_reducible rfl
      rotate_left
      · simp only [Act.put, List.setIfInBounds_toArray, List.set_cons_zero, List.set_cons_succ, i64_w, i32_w]
        rfl
      refine done_ (done_of HT_.out (by kernel_rfl)) ?_
      try go_wp2
      go_ret
      exact ⟨by first | rfl | (simp [errW_none, errW_some] <;> rfl) | (simp only [← hji7, ← hji10]; first | rfl | (simp [errW_none, errW_some] <;> rfl)) | (simp [*, errW_none, errW_some] <;> rfl), by repeat (first | (with_reducible first | exact HB.out | apply below_alloc | apply pw_below_drewN | apply below_drew1) | exact HB.out)⟩
    · rw [if_neg c9] at H
      exact absurd H (by simp)
  · rw [if_neg c6] at H
    exact absurd H (by simp)

/-! ### digit_Top: function 24 -/
def digit_Top.l0 : Nat → Int → Int → Int → Option (Int)
  | 0, _, _, _ => none
  | k + 1, x2, x7, x8 => if x8 = 0 then (some x7) else ((digit_width.f x2).bind fun t107 => (if 0 ≤ t107 then (digit_Top.l0 k x2 (wrap64 (x7 + 1)) (shr .u64 x8 t107)) else (none)))
def digit_Top.f (k : Nat) (a0 : Int) (a1 : Int) (a2 : Int) : Option (Int) := (digit_time.f a0).bind fun t105 => ((digit_time.f a1).bind fun t106 => (digit_Top.l0 k a2 (-1) (Go.bits .xor .u64 t105 t106)))
theorem digit_Top.mono_l : ∀ k, (∀ y0 y1 y2, LeO (digit_Top.l0 k y0 y1 y2) (digit_Top.l0 (k + 1) y0 y1 y2))
  | 0 => fun _ _ _ r h => by simp [digit_Top.l0] at h
  | k + 1 => by
    have ih0 := digit_Top.mono_l k
    · intro y0 y1 y2
      unfold digit_Top.l0
      repeat' first
      | (with_reducible exact ih0 _ _ _)
      | (with_reducible exact LeO.refl _)
      | (with_reducible exact LeO.none _)
      | (with_reducible refine LeO.ite ?_ ?_)
      | (with_reducible refine LeO.bind ?_ (fun _ => ?_))
      | exact ih0 _ _ _
      | exact LeO.none _
      | refine LeO.ite ?_ ?_
      | refine LeO.bind ?_ (fun _ => ?_)
theorem digit_Top.mono : ∀ a0 a1 a2 k, LeO (digit_Top.f k a0 a1 a2) (digit_Top.f (k + 1) a0 a1 a2) := by
  intro a0 a1 a2 k
  have ih0 := digit_Top.mono_l k
  unfold digit_Top.f
  repeat' first
      | (with_reducible exact ih0 _ _ _)
      | (with_reducible exact LeO.refl _)
      | (with_reducible exact LeO.none _)
      | (with_reducible refine LeO.ite ?_ ?_)
      | (with_reducible refine LeO.bind ?_ (fun _ => ?_))
      | exact ih0 _ _ _
      | exact LeO.none _
      | refine LeO.ite ?_ ?_
      | refine LeO.bind ?_ (fun _ => ?_)
set_option maxHeartbeats 8000000 in
set_option maxRecDepth 100000 in
theorem digit_Top.calls (k : Nat) (a0 : Int) (a1 : Int) (a2 : Int) (r : Int) (w : World) (h : digit_Top.f k a0 a1 a2 = some r) :
    Calls Try.prog 24 #[.int .i64 a0, .int .i64 a1, .int .i64 a2] w fun e w' => e = .returned (.int .i64 r) ∧ Below w.heap.size w w' := by
  have HB := Aside0.mk (Below.refl w.heap.size w)
  have H : ((digit_time.f a0).bind fun t105 => ((digit_time.f a1).bind fun t106 => (digit_Top.l0 k a2 (-1) (Go.bits .xor .u64 t105 t106)))) = some r := h
  clear h
  replace H := Option.bind_eq_some_iff.mp H
  obtain ⟨t105, A40, H⟩ := H
  replace H : ((digit_time.f a1).bind fun t106 => (digit_Top.l0 k a2 (-1) (Go.bits .xor .u64 t105 t106))) = some r := H
  have A4 := Aside0.mk A40
  clear A40
  replace H := Option.bind_eq_some_iff.mp H
  obtain ⟨t106, A50, H⟩ := H
  replace H : (digit_Top.l0 k a2 (-1) (Go.bits .xor .u64 t105 t106)) = some r := H
  have A5 := Aside0.mk A50
  clear A50
  have H' := Aside0.mk H
  clear H
  go_enter Try.func24, Try.ntmps24
  go_wp2_with (first | ((with_reducible refine gate_callee (f := 44) rfl ?_); refine goesL_ (some 10) rfl rfl Try.func44 (by kernel_rfl) rfl #[.int .i64 a0] rfl (by (try simp only [List.map_toArray, List.map_cons, List.map_nil]); first | done | rfl | (simp only [List.length_drop, List.length_take]; rfl)) ?_; (with_reducible refine (digit_time.calls a0 t105 _ A4.out).mono ?_); rintro e w6 ⟨rfl, hb⟩; refine ⟨_, rfl, ?_⟩; have n0_ := Aside0.mk (below_step (by repeat (first | (with_reducible first | exact HB.out | apply below_alloc | apply pw_below_drewN | apply below_drew1) | exact HB.out)) hb); clear HB; have HB := n0_; clear n0_; (try clear hb); (try clear hb2); (try clear hk); (try clear hi)) | ((with_reducible refine gate_callee (f := 44) rfl ?_); refine goesL_ (some 12) rfl rfl Try.func44 (by kernel_rfl) rfl #[.int .i64 a1] rfl (by (try simp only [List.map_toArray, List.map_cons, List.map_nil]); first | done | rfl | (simp only [List.length_drop, List.length_take]; rfl)) ?_; (with_reducible refine (digit_time.calls a1 t106 _ A5.out).mono ?_); rintro e w7 ⟨rfl, hb⟩; refine ⟨_, rfl, ?_⟩; have n0_ := Aside0.mk (below_step (by repeat (first | (with_reducible first | exact HB.out | apply below_alloc | apply pw_below_drewN | apply below_drew1) | exact HB.out)) hb); clear HB; have HB := n0_; clear n0_; (try clear hb); (try clear hb2); (try clear hk); (try clear hi)))
  go_loopg [7, 8] k (fun kq v7 v8 w' => ∃ (x7_1 : Int) (x8_1 : Int), v7 = .int .i64 x7_1 ∧ v8 = .int .u64 x8_1 ∧ Aside0 (digit_Top.l0 kq a2 x7_1 x8_1 = some r) ∧ Aside0 (kq ≤ k) ∧ Aside0 (Below w.heap.size w w'))
  case atStart => exact ⟨((-1)), (Go.bits .xor .u64 t105 t106), (by first | rfl | (simp; done) | (simp [*]; done)), (by first | rfl | (simp; done) | (simp [*]; done)), H', ⟨Nat.le_refl _⟩, ⟨by repeat (first | (with_reducible first | exact HB.out | apply below_alloc | apply pw_below_drewN | apply below_drew1) | exact HB.out)⟩⟩
  case round =>
    clear H'
    try clear c2
    try clear p2
    try clear c4
    obtain ⟨x7_1, x8_1, rfl, rfl, HA, HK1, HB⟩ := hrel
    cases gk with
    | zero => exact absurd HA.out (by simp [digit_Top.l0])
    | succ k1 =>
      have H := HA.out
      clear HA
      simp only [digit_Top.l0] at H
      by_cases c8 : x8_1 = 0
      · rw [if_pos c8] at H
        have c8b0 : (x8_1 == 0) = true := beq_iff_eq.mpr c8
        have c8b1 : (x8_1 != 0) = false := bne_eq_false_iff_eq.mpr c8
        clear c8
        obtain rfl := Option.some.inj H
        go_wp2
        go_ret
        exact ⟨by first | rfl | (simp [errW_none, errW_some] <;> rfl) | (simp [*, errW_none, errW_some] <;> rfl), by repeat (first | (with_reducible first | exact HB.out | apply below_alloc | apply pw_below_drewN | apply below_drew1) | exact HB.out)⟩
      · rw [if_neg c8] at H
        have c8b0 : (x8_1 == 0) = false := beq_eq_false_iff_ne.mpr c8
        have c8b1 : (x8_1 != 0) = true := bne_iff_ne.mpr c8
        replace H := Option.bind_eq_some_iff.mp H
        obtain ⟨t107, A90, H⟩ := H
        replace H : (if 0 ≤ t107 then (digit_Top.l0 k1 a2 (wrap64 (x7_1 + 1)) (shr .u64 x8_1 t107)) else (none)) = some r := H
        have A9 := Aside0.mk A90
        clear A90
        by_cases c10 : 0 ≤ t107
        · rw [if_pos c10] at H
          have c10b0 := eq_true c10
          have c10b1 : decide (0 ≤ t107) = true := decide_eq_true c10
          clear c10
          obtain ⟨ji11, hji11⟩ : ∃ j_ : Int, (shr .u64 x8_1 t107) = j_ := ⟨_, rfl⟩
          replace H : (digit_Top.l0 k1 a2 (wrap64 (x7_1 + 1)) ji11) = some r := by first | (rw [hji11] at H; exact H) | (simp only [hji11] at H ⊢; exact H)
          (try rw [hji11] at A9)
          have hji11_ : (x8_1 / 2 ^ min t107.toNat 64) = ji11 := hji11
          have hji11z : t107 ≤ 64 → (x8_1 / 2 ^ t107.toNat) = ji11 := shr_small hji11
          have H' := Aside0.mk H
          clear H
          go_wp2_with (first | ((with_reducible refine gate_callee (f := 46) rfl ?_); refine goesL_ (some 18) rfl rfl Try.func46 (by kernel_rfl) rfl #[.int .i64 a2] rfl (by (try simp only [List.map_toArray, List.map_cons, List.map_nil]); first | done | rfl | (simp only [List.length_drop, List.length_take]; rfl)) ?_; (with_reducible refine (digit_width.calls a2 t107 _ A9.out).mono ?_); rintro e w12 ⟨rfl, hb⟩; refine ⟨_, rfl, ?_⟩; have n0_ := Aside0.mk (below_step (by repeat (first | (with_reducible first | exact HB.out | apply below_alloc | apply pw_below_drewN | apply below_drew1) | exact HB.out)) hb); clear HB; have HB := n0_; clear n0_; (try clear hb); (try clear hb2); (try clear hk); (try clear hi)))
          go_roundg k1
          case measure => have := HK1.out; omega
          case rel => exact ⟨(wrap64 (x7_1 + 1)), (ji11), (by first | rfl | (simp; done) | (simp [*]; done)), (by first | rfl | (simp; done) | (simp only [← hji11] <;> (first | rfl | simp)) | (simp [*]; done)), H', ⟨by have := HK1.out; omega⟩, ⟨by repeat (first | (with_reducible first | exact HB.out | apply below_alloc | apply pw_below_drewN | apply below_drew1) | exact HB.out)⟩⟩
        · rw [if_neg c10] at H
          exact absurd H (by simp)

/-! ### digit_Place: function 34 -/
def digit_Place.f (k : Nat) (a0 : Int) (a1 : Int) (a2 : Int) (a3 : Int) : Option (Int × Int) := (digit_time.f a1).bind fun t108 => ((digit_time.f a0).bind fun t109 => (if t108 ≤ t109 then (some ((-1), (-1))) else ((digit_Top.f k a0 a1 a3).bind fun t110 => (if t110 < a2 then ((digit_Digit.f a1 t110 a3).bind fun t111 => (some (t110, t111))) else (some (a2, 0))))))
theorem digit_Place.mono : ∀ a0 a1 a2 a3 k, LeO (digit_Place.f k a0 a1 a2 a3) (digit_Place.f (k + 1) a0 a1 a2 a3) := by
  intro a0 a1 a2 a3 k
  unfold digit_Place.f
  repeat' first
      | (with_reducible exact digit_Top.mono _ _ _ _)
      | (with_reducible exact LeO.refl _)
      | (with_reducible exact LeO.none _)
      | (with_reducible refine LeO.ite ?_ ?_)
      | (with_reducible refine LeO.bind ?_ (fun _ => ?_))
      | exact digit_Top.mono _ _ _ _
      | exact LeO.none _
      | refine LeO.ite ?_ ?_
      | refine LeO.bind ?_ (fun _ => ?_)
set_option maxHeartbeats 8000000 in
set_option maxRecDepth 100000 in
theorem digit_Place.calls (k : Nat) (a0 : Int) (a1 : Int) (a2 : Int) (a3 : Int) (r1 : Int) (r2 : Int) (w : World) (h : digit_Place.f k a0 a1 a2 a3 = some (r1, r2)) :
    Calls Try.prog 34 #[.int .i64 a0, .int .i64 a1, .int .i64 a2, .int .i64 a3] w fun e w' => e = .returned (.tuple #[.int .i64 r1, .int .i64 r2]) ∧ Below w.heap.size w w' := by
  have HB := Aside0.mk (Below.refl w.heap.size w)
  have H : ((digit_time.f a1).bind fun t108 => ((digit_time.f a0).bind fun t109 => (if t108 ≤ t109 then (some ((-1), (-1))) else ((digit_Top.f k a0 a1 a3).bind fun t110 => (if t110 < a2 then ((digit_Digit.f a1 t110 a3).bind fun t111 => (some (t110, t111))) else (some (a2, 0))))))) = some (r1, r2) := h
  clear h
  replace H := Option.bind_eq_some_iff.mp H
  obtain ⟨t108, A50, H⟩ := H
  replace H : ((digit_time.f a0).bind fun t109 => (if t108 ≤ t109 then (some ((-1), (-1))) else ((digit_Top.f k a0 a1 a3).bind fun t110 => (if t110 < a2 then ((digit_Digit.f a1 t110 a3).bind fun t111 => (some (t110, t111))) else (some (a2, 0)))))) = some (r1, r2) := H
  have A5 := Aside0.mk A50
  clear A50
  replace H := Option.bind_eq_some_iff.mp H
  obtain ⟨t109, A60, H⟩ := H
  replace H : (if t108 ≤ t109 then (some ((-1), (-1))) else ((digit_Top.f k a0 a1 a3).bind fun t110 => (if t110 < a2 then ((digit_Digit.f a1 t110 a3).bind fun t111 => (some (t110, t111))) else (some (a2, 0))))) = some (r1, r2) := H
  have A6 := Aside0.mk A60
  clear A60
  by_cases c7 : t108 ≤ t109
  · rw [if_pos c7] at H
    have c7b0 : decide (t108 ≤ t109) = true := decide_eq_true c7
    clear c7
    simp only [Option.some.injEq, Prod.mk.injEq] at H
    obtain ⟨rfl, rfl⟩ := H
    go_enter Try.func34, Try.ntmps34
    go_wp2_with (first | ((with_reducible refine gate_callee (f := 44) rfl ?_); refine goesL_ (some 12) rfl rfl Try.func44 (by kernel_rfl) rfl #[.int .i64 a1] rfl (by (try simp only [List.map_toArray, List.map_cons, List.map_nil]); first | done | rfl | (simp only [List.length_drop, List.length_take]; rfl)) ?_; (with_reducible refine (digit_time.calls a1 t108 _ A5.out).mono ?_); rintro e w8 ⟨rfl, hb⟩; refine ⟨_, rfl, ?_⟩; have n0_ := Aside0.mk (below_step (by repeat (first | (with_reducible first | exact HB.out | apply below_alloc | apply pw_below_drewN | apply below_drew1) | exact HB.out)) hb); clear HB; have HB := n0_; clear n0_; (try clear hb); (try clear hb2); (try clear hk); (try clear hi)) | ((with_reducible refine gate_callee (f := 44) rfl ?_); refine goesL_ (some 14) rfl rfl Try.func44 (by kernel_rfl) rfl #[.int .i64 a0] rfl (by (try simp only [List.map_toArray, List.map_cons, List.map_nil]); first | done | rfl | (simp only [List.length_drop, List.length_take]; rfl)) ?_; (with_reducible refine (digit_time.calls a0 t109 _ A6.out).mono ?_); rintro e w9 ⟨rfl, hb⟩; refine ⟨_, rfl, ?_⟩; have n0_ := Aside0.mk (below_step (by repeat (first | (with_reducible first | exact HB.out | apply below_alloc | apply pw_below_drewN | apply below_drew1) | exact HB.out)) hb); clear HB; have HB := n0_; clear n0_; (try clear hb); (try clear hb2); (try clear hk); (try clear hi)))
    go_ret2
    exact ⟨by first | rfl | (simp [errW_none, errW_some] <;> rfl) | (simp [*, errW_none, errW_some] <;> rfl), by repeat (first | (with_reducible first | exact HB.out | apply below_alloc | apply pw_below_drewN | apply below_drew1) | exact HB.out)⟩
  · rw [if_neg c7] at H
    have c7b0 : decide (t108 ≤ t109) = false := decide_eq_false c7
    clear c7
    replace H := Option.bind_eq_some_iff.mp H
    obtain ⟨t110, A100, H⟩ := H
    replace H : (if t110 < a2 then ((digit_Digit.f a1 t110 a3).bind fun t111 => (some (t110, t111))) else (some (a2, 0))) = some (r1, r2) := H
    have A10 := Aside0.mk A100
    clear A100
    by_cases c11 : t110 < a2
    · rw [if_pos c11] at H
      have c11b0 : decide (t110 < a2) = true := decide_eq_true c11
      clear c11
      replace H := Option.bind_eq_some_iff.mp H
      obtain ⟨t111, A120, H⟩ := H
      replace H : (some (t110, t111)) = some (r1, r2) := H
      have A12 := Aside0.mk A120
      clear A120
      simp only [Option.some.injEq, Prod.mk.injEq] at H
      obtain ⟨rfl, rfl⟩ := H
      go_enter Try.func34, Try.ntmps34
      go_wp2_with (first | ((with_reducible refine gate_callee (f := 44) rfl ?_); refine goesL_ (some 12) rfl rfl Try.func44 (by kernel_rfl) rfl #[.int .i64 a1] rfl (by (try simp only [List.map_toArray, List.map_cons, List.map_nil]); first | done | rfl | (simp only [List.length_drop, List.length_take]; rfl)) ?_; (with_reducible refine (digit_time.calls a1 t108 _ A5.out).mono ?_); rintro e w13 ⟨rfl, hb⟩; refine ⟨_, rfl, ?_⟩; have n0_ := Aside0.mk (below_step (by repeat (first | (with_reducible first | exact HB.out | apply below_alloc | apply pw_below_drewN | apply below_drew1) | exact HB.out)) hb); clear HB; have HB := n0_; clear n0_; (try clear hb); (try clear hb2); (try clear hk); (try clear hi)) | ((with_reducible refine gate_callee (f := 44) rfl ?_); refine goesL_ (some 14) rfl rfl Try.func44 (by kernel_rfl) rfl #[.int .i64 a0] rfl (by (try simp only [List.map_toArray, List.map_cons, List.map_nil]); first | done | rfl | (simp only [List.length_drop, List.length_take]; rfl)) ?_; (with_reducible refine (digit_time.calls a0 t109 _ A6.out).mono ?_); rintro e w14 ⟨rfl, hb⟩; refine ⟨_, rfl, ?_⟩; have n0_ := Aside0.mk (below_step (by repeat (first | (with_reducible first | exact HB.out | apply below_alloc | apply pw_below_drewN | apply below_drew1) | exact HB.out)) hb); clear HB; have HB := n0_; clear n0_; (try clear hb); (try clear hb2); (try clear hk); (try clear hi)) | ((with_reducible refine gate_callee (f := 24) rfl ?_); refine goesL_ (some 19) rfl rfl Try.func24 (by kernel_rfl) rfl #[.int .i64 a0, .int .i64 a1, .int .i64 a3] rfl (by (try simp only [List.map_toArray, List.map_cons, List.map_nil]); first | done | rfl | (simp only [List.length_drop, List.length_take]; rfl)) ?_; (with_reducible refine (digit_Top.calls k a0 a1 a3 t110 _ A10.out).mono ?_); rintro e w15 ⟨rfl, hb⟩; refine ⟨_, rfl, ?_⟩; have n0_ := Aside0.mk (below_step (by repeat (first | (with_reducible first | exact HB.out | apply below_alloc | apply pw_below_drewN | apply below_drew1) | exact HB.out)) hb); clear HB; have HB := n0_; clear n0_; (try clear hb); (try clear hb2); (try clear hk); (try clear hi)) | ((with_reducible refine gate_callee (f := 22) rfl ?_); refine goesL_ (some 27) rfl rfl Try.func22 (by kernel_rfl) rfl #[.int .i64 a1, .int .i64 t110, .int .i64 a3] rfl (by (try simp only [List.map_toArray, List.map_cons, List.map_nil]); first | done | rfl | (simp only [List.length_drop, List.length_take]; rfl)) ?_; (with_reducible refine (digit_Digit.calls a1 t110 a3 t111 _ A12.out).mono ?_); rintro e w16 ⟨rfl, hb⟩; refine ⟨_, rfl, ?_⟩; have n0_ := Aside0.mk (below_step (by repeat (first | (with_reducible first | exact HB.out | apply below_alloc | apply pw_below_drewN | apply below_drew1) | exact HB.out)) hb); clear HB; have HB := n0_; clear n0_; (try clear hb); (try clear hb2); (try clear hk); (try clear hi)))
      go_ret2
      exact ⟨by first | rfl | (simp [errW_none, errW_some] <;> rfl) | (simp [*, errW_none, errW_some] <;> rfl), by repeat (first | (with_reducible first | exact HB.out | apply below_alloc | apply pw_below_drewN | apply below_drew1) | exact HB.out)⟩
    · rw [if_neg c11] at H
      have c11b0 : decide (t110 < a2) = false := decide_eq_false c11
      clear c11
      simp only [Option.some.injEq, Prod.mk.injEq] at H
      obtain ⟨rfl, rfl⟩ := H
      go_enter Try.func34, Try.ntmps34
      go_wp2_with (first | ((with_reducible refine gate_callee (f := 44) rfl ?_); refine goesL_ (some 12) rfl rfl Try.func44 (by kernel_rfl) rfl #[.int .i64 a1] rfl (by (try simp only [List.map_toArray, List.map_cons, List.map_nil]); first | done | rfl | (simp only [List.length_drop, List.length_take]; rfl)) ?_; (with_reducible refine (digit_time.calls a1 t108 _ A5.out).mono ?_); rintro e w17 ⟨rfl, hb⟩; refine ⟨_, rfl, ?_⟩; have n0_ := Aside0.mk (below_step (by repeat (first | (with_reducible first | exact HB.out | apply below_alloc | apply pw_below_drewN | apply below_drew1) | exact HB.out)) hb); clear HB; have HB := n0_; clear n0_; (try clear hb); (try clear hb2); (try clear hk); (try clear hi)) | ((with_reducible refine gate_callee (f := 44) rfl ?_); refine goesL_ (some 14) rfl rfl Try.func44 (by kernel_rfl) rfl #[.int .i64 a0] rfl (by (try simp only [List.map_toArray, List.map_cons, List.map_nil]); first | done | rfl | (simp only [List.length_drop, List.length_take]; rfl)) ?_; (with_reducible refine (digit_time.calls a0 t109 _ A6.out).mono ?_); rintro e w18 ⟨rfl, hb⟩; refine ⟨_, rfl, ?_⟩; have n0_ := Aside0.mk (below_step (by repeat (first | (with_reducible first | exact HB.out | apply below_alloc | apply pw_below_drewN | apply below_drew1) | exact HB.out)) hb); clear HB; have HB := n0_; clear n0_; (try clear hb); (try clear hb2); (try clear hk); (try clear hi)) | ((with_reducible refine gate_callee (f := 24) rfl ?_); refine goesL_ (some 19) rfl rfl Try.func24 (by kernel_rfl) rfl #[.int .i64 a0, .int .i64 a1, .int .i64 a3] rfl (by (try simp only [List.map_toArray, List.map_cons, List.map_nil]); first | done | rfl | (simp only [List.length_drop, List.length_take]; rfl)) ?_; (with_reducible refine (digit_Top.calls k a0 a1 a3 t110 _ A10.out).mono ?_); rintro e w19 ⟨rfl, hb⟩; refine ⟨_, rfl, ?_⟩; have n0_ := Aside0.mk (below_step (by repeat (first | (with_reducible first | exact HB.out | apply below_alloc | apply pw_below_drewN | apply below_drew1) | exact HB.out)) hb); clear HB; have HB := n0_; clear n0_; (try clear hb); (try clear hb2); (try clear hk); (try clear hi)))
      go_ret2
      exact ⟨by first | rfl | (simp [errW_none, errW_some] <;> rfl) | (simp [*, errW_none, errW_some] <;> rfl), by repeat (first | (with_reducible first | exact HB.out | apply below_alloc | apply pw_below_drewN | apply below_drew1) | exact HB.out)⟩

/-! ### knelllaw05_speaks: function 21 -/
def knelllaw05_speaks.f (k : Nat)  : Option (Bool) := (digit_Place.f k 27 30 8 2).bind fun bt112 => ((digit_Digit.f 27 0 2).bind fun t114 => (if t114 = 3 then ((digit_Digit.f 27 1 2).bind fun t115 => (if t115 = 2 then ((digit_Top.f k 27 30 2).bind fun t116 => (if t116 = 1 then (if bt112.1 = 1 then (some (bt112.2 == 3)) else (some false)) else (some false))) else (some false))) else (some false)))
theorem knelllaw05_speaks.mono : ∀ k, LeO (knelllaw05_speaks.f k ) (knelllaw05_speaks.f (k + 1) ) := by
  intro  k
  unfold knelllaw05_speaks.f
  repeat' first
      | (with_reducible exact digit_Place.mono _ _ _ _ _)
      | (with_reducible exact digit_Top.mono _ _ _ _)
      | (with_reducible exact LeO.refl _)
      | (with_reducible exact LeO.none _)
      | (with_reducible refine LeO.ite ?_ ?_)
      | (with_reducible refine LeO.bind ?_ (fun _ => ?_))
      | exact digit_Place.mono _ _ _ _ _
      | exact digit_Top.mono _ _ _ _
      | exact LeO.none _
      | refine LeO.ite ?_ ?_
      | refine LeO.bind ?_ (fun _ => ?_)
set_option maxHeartbeats 8000000 in
set_option maxRecDepth 100000 in
theorem knelllaw05_speaks.calls (k : Nat)  (r : Bool) (w : World) (h : knelllaw05_speaks.f k  = some r) :
    Calls Try.prog 21 #[] w fun e w' => e = .returned (.bool r) ∧ Below w.heap.size w w' := by
  have HB := Aside0.mk (Below.refl w.heap.size w)
  have H : ((digit_Place.f k 27 30 8 2).bind fun bt112 => ((digit_Digit.f 27 0 2).bind fun t114 => (if t114 = 3 then ((digit_Digit.f 27 1 2).bind fun t115 => (if t115 = 2 then ((digit_Top.f k 27 30 2).bind fun t116 => (if t116 = 1 then (if bt112.1 = 1 then (some (bt112.2 == 3)) else (some false)) else (some false))) else (some false))) else (some false)))) = some r := h
  clear h
  replace H := Option.bind_eq_some_iff.mp H
  obtain ⟨⟨t112, t113⟩, A10, H⟩ := H
  replace H : ((digit_Digit.f 27 0 2).bind fun t114 => (if t114 = 3 then ((digit_Digit.f 27 1 2).bind fun t115 => (if t115 = 2 then ((digit_Top.f k 27 30 2).bind fun t116 => (if t116 = 1 then (if t112 = 1 then (some (t113 == 3)) else (some false)) else (some false))) else (some false))) else (some false))) = some r := H
  have A1 := Aside0.mk A10
  clear A10
  replace H := Option.bind_eq_some_iff.mp H
  obtain ⟨t114, A20, H⟩ := H
  replace H : (if t114 = 3 then ((digit_Digit.f 27 1 2).bind fun t115 => (if t115 = 2 then ((digit_Top.f k 27 30 2).bind fun t116 => (if t116 = 1 then (if t112 = 1 then (some (t113 == 3)) else (some false)) else (some false))) else (some false))) else (some false)) = some r := H
  have A2 := Aside0.mk A20
  clear A20
  by_cases c3 : t114 = 3
  · rw [if_pos c3] at H
    have c3b0 : (t114 == 3) = true := beq_iff_eq.mpr c3
    have c3b1 : (t114 != 3) = false := bne_eq_false_iff_eq.mpr c3
    clear c3
    replace H := Option.bind_eq_some_iff.mp H
    obtain ⟨t115, A40, H⟩ := H
    replace H : (if t115 = 2 then ((digit_Top.f k 27 30 2).bind fun t116 => (if t116 = 1 then (if t112 = 1 then (some (t113 == 3)) else (some false)) else (some false))) else (some false)) = some r := H
    have A4 := Aside0.mk A40
    clear A40
    by_cases c5 : t115 = 2
    · rw [if_pos c5] at H
      have c5b0 : (t115 == 2) = true := beq_iff_eq.mpr c5
      have c5b1 : (t115 != 2) = false := bne_eq_false_iff_eq.mpr c5
      clear c5
      replace H := Option.bind_eq_some_iff.mp H
      obtain ⟨t116, A60, H⟩ := H
      replace H : (if t116 = 1 then (if t112 = 1 then (some (t113 == 3)) else (some false)) else (some false)) = some r := H
      have A6 := Aside0.mk A60
      clear A60
      by_cases c7 : t116 = 1
      · rw [if_pos c7] at H
        have c7b0 : (t116 == 1) = true := beq_iff_eq.mpr c7
        have c7b1 : (t116 != 1) = false := bne_eq_false_iff_eq.mpr c7
        clear c7
        by_cases c8 : t112 = 1
        · rw [if_pos c8] at H
          have c8b0 : (t112 == 1) = true := beq_iff_eq.mpr c8
          have c8b1 : (t112 != 1) = false := bne_eq_false_iff_eq.mpr c8
          clear c8
          obtain rfl := Option.some.inj H
          go_enter Try.func21, Try.ntmps21
          go_wp2_with (first | ((with_reducible refine gate_callee (f := 34) rfl ?_); refine goesL_ (some 4) rfl rfl Try.func34 (by kernel_rfl) rfl #[.int .i64 27, .int .i64 30, .int .i64 8, .int .i64 2] rfl (by (try simp only [List.map_toArray, List.map_cons, List.map_nil]); first | done | rfl | (simp only [List.length_drop, List.length_take]; rfl)) ?_; (with_reducible refine (digit_Place.calls k 27 30 8 2 t112 t113 _ A1.out).mono ?_); rintro e w9 ⟨rfl, hb⟩; refine ⟨_, rfl, ?_⟩; have n0_ := Aside0.mk (below_step (by repeat (first | (with_reducible first | exact HB.out | apply below_alloc | apply pw_below_drewN | apply below_drew1) | exact HB.out)) hb); clear HB; have HB := n0_; clear n0_; (try clear hb); (try clear hb2); (try clear hk); (try clear hi)) | ((with_reducible refine gate_callee (f := 22) rfl ?_); refine goesL_ (some 7) rfl rfl Try.func22 (by kernel_rfl) rfl #[.int .i64 27, .int .i64 0, .int .i64 2] rfl (by (try simp only [List.map_toArray, List.map_cons, List.map_nil]); first | done | rfl | (simp only [List.length_drop, List.length_take]; rfl)) ?_; (with_reducible refine (digit_Digit.calls 27 0 2 t114 _ A2.out).mono ?_); rintro e w10 ⟨rfl, hb⟩; refine ⟨_, rfl, ?_⟩; have n0_ := Aside0.mk (below_step (by repeat (first | (with_reducible first | exact HB.out | apply below_alloc | apply pw_below_drewN | apply below_drew1) | exact HB.out)) hb); clear HB; have HB := n0_; clear n0_; (try clear hb); (try clear hb2); (try clear hk); (try clear hi)) | (go_at_call 22; (with_reducible refine (digit_Digit.calls 27 1 2 t115 _ A4.out).mono ?_); rintro e w11 ⟨rfl, hb⟩; have n0_ := Aside0.mk (below_step (by repeat (first | (with_reducible first | exact HB.out | apply below_alloc | apply pw_below_drewN | apply below_drew1) | exact HB.out)) hb); clear HB; have HB := n0_; clear n0_; (try clear hb); (try clear hb2); (try clear hk); (try clear hi)) | (go_at_call 24; (with_reducible refine (digit_Top.calls k 27 30 2 t116 _ A6.out).mono ?_); rintro e w12 ⟨rfl, hb⟩; have n0_ := Aside0.mk (below_step (by repeat (first | (with_reducible first | exact HB.out | apply below_alloc | apply pw_below_drewN | apply below_drew1) | exact HB.out)) hb); clear HB; have HB := n0_; clear n0_; (try clear hb); (try clear hb2); (try clear hk); (try clear hi)))
          go_ret
          exact ⟨by first | rfl | (simp [errW_none, errW_some] <;> rfl) | (simp [*, errW_none, errW_some] <;> rfl), by repeat (first | (with_reducible first | exact HB.out | apply below_alloc | apply pw_below_drewN | apply below_drew1) | exact HB.out)⟩
        · rw [if_neg c8] at H
          have c8b0 : (t112 == 1) = false := beq_eq_false_iff_ne.mpr c8
          have c8b1 : (t112 != 1) = true := bne_iff_ne.mpr c8
          obtain rfl := Option.some.inj H
          go_enter Try.func21, Try.ntmps21
          go_wp2_with (first | ((with_reducible refine gate_callee (f := 34) rfl ?_); refine goesL_ (some 4) rfl rfl Try.func34 (by kernel_rfl) rfl #[.int .i64 27, .int .i64 30, .int .i64 8, .int .i64 2] rfl (by (try simp only [List.map_toArray, List.map_cons, List.map_nil]); first | done | rfl | (simp only [List.length_drop, List.length_take]; rfl)) ?_; (with_reducible refine (digit_Place.calls k 27 30 8 2 t112 t113 _ A1.out).mono ?_); rintro e w13 ⟨rfl, hb⟩; refine ⟨_, rfl, ?_⟩; have n0_ := Aside0.mk (below_step (by repeat (first | (with_reducible first | exact HB.out | apply below_alloc | apply pw_below_drewN | apply below_drew1) | exact HB.out)) hb); clear HB; have HB := n0_; clear n0_; (try clear hb); (try clear hb2); (try clear hk); (try clear hi)) | ((with_reducible refine gate_callee (f := 22) rfl ?_); refine goesL_ (some 7) rfl rfl Try.func22 (by kernel_rfl) rfl #[.int .i64 27, .int .i64 0, .int .i64 2] rfl (by (try simp only [List.map_toArray, List.map_cons, List.map_nil]); first | done | rfl | (simp only [List.length_drop, List.length_take]; rfl)) ?_; (with_reducible refine (digit_Digit.calls 27 0 2 t114 _ A2.out).mono ?_); rintro e w14 ⟨rfl, hb⟩; refine ⟨_, rfl, ?_⟩; have n0_ := Aside0.mk (below_step (by repeat (first | (with_reducible first | exact HB.out | apply below_alloc | apply pw_below_drewN | apply below_drew1) | exact HB.out)) hb); clear HB; have HB := n0_; clear n0_; (try clear hb); (try clear hb2); (try clear hk); (try clear hi)) | (go_at_call 22; (with_reducible refine (digit_Digit.calls 27 1 2 t115 _ A4.out).mono ?_); rintro e w15 ⟨rfl, hb⟩; have n0_ := Aside0.mk (below_step (by repeat (first | (with_reducible first | exact HB.out | apply below_alloc | apply pw_below_drewN | apply below_drew1) | exact HB.out)) hb); clear HB; have HB := n0_; clear n0_; (try clear hb); (try clear hb2); (try clear hk); (try clear hi)) | (go_at_call 24; (with_reducible refine (digit_Top.calls k 27 30 2 t116 _ A6.out).mono ?_); rintro e w16 ⟨rfl, hb⟩; have n0_ := Aside0.mk (below_step (by repeat (first | (with_reducible first | exact HB.out | apply below_alloc | apply pw_below_drewN | apply below_drew1) | exact HB.out)) hb); clear HB; have HB := n0_; clear n0_; (try clear hb); (try clear hb2); (try clear hk); (try clear hi)))
          go_ret
          exact ⟨by first | rfl | (simp [errW_none, errW_some] <;> rfl) | (simp [*, errW_none, errW_some] <;> rfl), by repeat (first | (with_reducible first | exact HB.out | apply below_alloc | apply pw_below_drewN | apply below_drew1) | exact HB.out)⟩
      · rw [if_neg c7] at H
        have c7b0 : (t116 == 1) = false := beq_eq_false_iff_ne.mpr c7
        have c7b1 : (t116 != 1) = true := bne_iff_ne.mpr c7
        obtain rfl := Option.some.inj H
        go_enter Try.func21, Try.ntmps21
        go_wp2_with (first | ((with_reducible refine gate_callee (f := 34) rfl ?_); refine goesL_ (some 4) rfl rfl Try.func34 (by kernel_rfl) rfl #[.int .i64 27, .int .i64 30, .int .i64 8, .int .i64 2] rfl (by (try simp only [List.map_toArray, List.map_cons, List.map_nil]); first | done | rfl | (simp only [List.length_drop, List.length_take]; rfl)) ?_; (with_reducible refine (digit_Place.calls k 27 30 8 2 t112 t113 _ A1.out).mono ?_); rintro e w17 ⟨rfl, hb⟩; refine ⟨_, rfl, ?_⟩; have n0_ := Aside0.mk (below_step (by repeat (first | (with_reducible first | exact HB.out | apply below_alloc | apply pw_below_drewN | apply below_drew1) | exact HB.out)) hb); clear HB; have HB := n0_; clear n0_; (try clear hb); (try clear hb2); (try clear hk); (try clear hi)) | ((with_reducible refine gate_callee (f := 22) rfl ?_); refine goesL_ (some 7) rfl rfl Try.func22 (by kernel_rfl) rfl #[.int .i64 27, .int .i64 0, .int .i64 2] rfl (by (try simp only [List.map_toArray, List.map_cons, List.map_nil]); first | done | rfl | (simp only [List.length_drop, List.length_take]; rfl)) ?_; (with_reducible refine (digit_Digit.calls 27 0 2 t114 _ A2.out).mono ?_); rintro e w18 ⟨rfl, hb⟩; refine ⟨_, rfl, ?_⟩; have n0_ := Aside0.mk (below_step (by repeat (first | (with_reducible first | exact HB.out | apply below_alloc | apply pw_below_drewN | apply below_drew1) | exact HB.out)) hb); clear HB; have HB := n0_; clear n0_; (try clear hb); (try clear hb2); (try clear hk); (try clear hi)) | (go_at_call 22; (with_reducible refine (digit_Digit.calls 27 1 2 t115 _ A4.out).mono ?_); rintro e w19 ⟨rfl, hb⟩; have n0_ := Aside0.mk (below_step (by repeat (first | (with_reducible first | exact HB.out | apply below_alloc | apply pw_below_drewN | apply below_drew1) | exact HB.out)) hb); clear HB; have HB := n0_; clear n0_; (try clear hb); (try clear hb2); (try clear hk); (try clear hi)) | (go_at_call 24; (with_reducible refine (digit_Top.calls k 27 30 2 t116 _ A6.out).mono ?_); rintro e w20 ⟨rfl, hb⟩; have n0_ := Aside0.mk (below_step (by repeat (first | (with_reducible first | exact HB.out | apply below_alloc | apply pw_below_drewN | apply below_drew1) | exact HB.out)) hb); clear HB; have HB := n0_; clear n0_; (try clear hb); (try clear hb2); (try clear hk); (try clear hi)))
        go_ret
        exact ⟨by first | rfl | (simp [errW_none, errW_some] <;> rfl) | (simp [*, errW_none, errW_some] <;> rfl), by repeat (first | (with_reducible first | exact HB.out | apply below_alloc | apply pw_below_drewN | apply below_drew1) | exact HB.out)⟩
    · rw [if_neg c5] at H
      have c5b0 : (t115 == 2) = false := beq_eq_false_iff_ne.mpr c5
      have c5b1 : (t115 != 2) = true := bne_iff_ne.mpr c5
      obtain rfl := Option.some.inj H
      go_enter Try.func21, Try.ntmps21
      go_wp2_with (first | ((with_reducible refine gate_callee (f := 34) rfl ?_); refine goesL_ (some 4) rfl rfl Try.func34 (by kernel_rfl) rfl #[.int .i64 27, .int .i64 30, .int .i64 8, .int .i64 2] rfl (by (try simp only [List.map_toArray, List.map_cons, List.map_nil]); first | done | rfl | (simp only [List.length_drop, List.length_take]; rfl)) ?_; (with_reducible refine (digit_Place.calls k 27 30 8 2 t112 t113 _ A1.out).mono ?_); rintro e w21 ⟨rfl, hb⟩; refine ⟨_, rfl, ?_⟩; have n0_ := Aside0.mk (below_step (by repeat (first | (with_reducible first | exact HB.out | apply below_alloc | apply pw_below_drewN | apply below_drew1) | exact HB.out)) hb); clear HB; have HB := n0_; clear n0_; (try clear hb); (try clear hb2); (try clear hk); (try clear hi)) | ((with_reducible refine gate_callee (f := 22) rfl ?_); refine goesL_ (some 7) rfl rfl Try.func22 (by kernel_rfl) rfl #[.int .i64 27, .int .i64 0, .int .i64 2] rfl (by (try simp only [List.map_toArray, List.map_cons, List.map_nil]); first | done | rfl | (simp only [List.length_drop, List.length_take]; rfl)) ?_; (with_reducible refine (digit_Digit.calls 27 0 2 t114 _ A2.out).mono ?_); rintro e w22 ⟨rfl, hb⟩; refine ⟨_, rfl, ?_⟩; have n0_ := Aside0.mk (below_step (by repeat (first | (with_reducible first | exact HB.out | apply below_alloc | apply pw_below_drewN | apply below_drew1) | exact HB.out)) hb); clear HB; have HB := n0_; clear n0_; (try clear hb); (try clear hb2); (try clear hk); (try clear hi)) | (go_at_call 22; (with_reducible refine (digit_Digit.calls 27 1 2 t115 _ A4.out).mono ?_); rintro e w23 ⟨rfl, hb⟩; have n0_ := Aside0.mk (below_step (by repeat (first | (with_reducible first | exact HB.out | apply below_alloc | apply pw_below_drewN | apply below_drew1) | exact HB.out)) hb); clear HB; have HB := n0_; clear n0_; (try clear hb); (try clear hb2); (try clear hk); (try clear hi)))
      go_ret
      exact ⟨by first | rfl | (simp [errW_none, errW_some] <;> rfl) | (simp [*, errW_none, errW_some] <;> rfl), by repeat (first | (with_reducible first | exact HB.out | apply below_alloc | apply pw_below_drewN | apply below_drew1) | exact HB.out)⟩
  · rw [if_neg c3] at H
    have c3b0 : (t114 == 3) = false := beq_eq_false_iff_ne.mpr c3
    have c3b1 : (t114 != 3) = true := bne_iff_ne.mpr c3
    obtain rfl := Option.some.inj H
    go_enter Try.func21, Try.ntmps21
    go_wp2_with (first | ((with_reducible refine gate_callee (f := 34) rfl ?_); refine goesL_ (some 4) rfl rfl Try.func34 (by kernel_rfl) rfl #[.int .i64 27, .int .i64 30, .int .i64 8, .int .i64 2] rfl (by (try simp only [List.map_toArray, List.map_cons, List.map_nil]); first | done | rfl | (simp only [List.length_drop, List.length_take]; rfl)) ?_; (with_reducible refine (digit_Place.calls k 27 30 8 2 t112 t113 _ A1.out).mono ?_); rintro e w24 ⟨rfl, hb⟩; refine ⟨_, rfl, ?_⟩; have n0_ := Aside0.mk (below_step (by repeat (first | (with_reducible first | exact HB.out | apply below_alloc | apply pw_below_drewN | apply below_drew1) | exact HB.out)) hb); clear HB; have HB := n0_; clear n0_; (try clear hb); (try clear hb2); (try clear hk); (try clear hi)) | ((with_reducible refine gate_callee (f := 22) rfl ?_); refine goesL_ (some 7) rfl rfl Try.func22 (by kernel_rfl) rfl #[.int .i64 27, .int .i64 0, .int .i64 2] rfl (by (try simp only [List.map_toArray, List.map_cons, List.map_nil]); first | done | rfl | (simp only [List.length_drop, List.length_take]; rfl)) ?_; (with_reducible refine (digit_Digit.calls 27 0 2 t114 _ A2.out).mono ?_); rintro e w25 ⟨rfl, hb⟩; refine ⟨_, rfl, ?_⟩; have n0_ := Aside0.mk (below_step (by repeat (first | (with_reducible first | exact HB.out | apply below_alloc | apply pw_below_drewN | apply below_drew1) | exact HB.out)) hb); clear HB; have HB := n0_; clear n0_; (try clear hb); (try clear hb2); (try clear hk); (try clear hi)))
    go_ret
    exact ⟨by first | rfl | (simp [errW_none, errW_some] <;> rfl) | (simp [*, errW_none, errW_some] <;> rfl), by repeat (first | (with_reducible first | exact HB.out | apply below_alloc | apply pw_below_drewN | apply below_drew1) | exact HB.out)⟩

/-! ### digit_Floor: function 26 -/
def digit_Floor.f (a0 : Int) (a1 : Int) (a2 : Int) : Option (Int) := (digit_shift.f a1 a2).bind fun t117 => ((digit_time.f a0).bind fun t118 => (if 0 ≤ t117 then (some (wrap64 (shl .u64 (shr .u64 t118 t117) t117))) else (none)))
set_option maxHeartbeats 8000000 in
set_option maxRecDepth 100000 in
theorem digit_Floor.calls (a0 : Int) (a1 : Int) (a2 : Int) (r : Int) (w : World) (h : digit_Floor.f a0 a1 a2 = some r) :
    Calls Try.prog 26 #[.int .i64 a0, .int .i64 a1, .int .i64 a2] w fun e w' => e = .returned (.int .i64 r) ∧ Below w.heap.size w w' := by
  have HB := Aside0.mk (Below.refl w.heap.size w)
  have H : ((digit_shift.f a1 a2).bind fun t117 => ((digit_time.f a0).bind fun t118 => (if 0 ≤ t117 then (some (wrap64 (shl .u64 (shr .u64 t118 t117) t117))) else (none)))) = some r := h
  clear h
  replace H := Option.bind_eq_some_iff.mp H
  obtain ⟨t117, A40, H⟩ := H
  replace H : ((digit_time.f a0).bind fun t118 => (if 0 ≤ t117 then (some (wrap64 (shl .u64 (shr .u64 t118 t117) t117))) else (none))) = some r := H
  have A4 := Aside0.mk A40
  clear A40
  replace H := Option.bind_eq_some_iff.mp H
  obtain ⟨t118, A50, H⟩ := H
  replace H : (if 0 ≤ t117 then (some (wrap64 (shl .u64 (shr .u64 t118 t117) t117))) else (none)) = some r := H
  have A5 := Aside0.mk A50
  clear A50
  by_cases c6 : 0 ≤ t117
  · rw [if_pos c6] at H
    have c6b0 := eq_true c6
    have c6b1 : decide (0 ≤ t117) = true := decide_eq_true c6
    clear c6
    obtain ⟨ji7, hji7⟩ : ∃ j_ : Int, (shr .u64 t118 t117) = j_ := ⟨_, rfl⟩
    replace H : (some (wrap64 (shl .u64 (ji7) t117))) = some r := by first | (rw [hji7] at H; exact H) | (simp only [hji7] at H ⊢; exact H)
    (try rw [hji7] at A4)
    (try rw [hji7] at A5)
    have hji7_ : (t118 / 2 ^ min t117.toNat 64) = ji7 := hji7
    have hji7z : t117 ≤ 64 → (t118 / 2 ^ t117.toNat) = ji7 := shr_small hji7
    have c8b0 := eq_true (of_decide_eq_true (by first | (with_reducible assumption) | assumption) : 0 ≤ t117)
    obtain ⟨ji9, hji9⟩ : ∃ j_ : Int, (shl .u64 (ji7) t117) = j_ := ⟨_, rfl⟩
    replace H : (some (wrap64 (ji9))) = some r := by first | (rw [hji9] at H; exact H) | (simp only [hji9] at H ⊢; exact H)
    (try rw [hji9] at A4)
    (try rw [hji9] at A5)
    have hji9_ : (IntKind.u64.wrap ((ji7) * 2 ^ min t117.toNat 64)) = ji9 := hji9
    have hji9z : t117 ≤ 64 → (IntKind.u64.wrap ((ji7) * 2 ^ t117.toNat)) = ji9 := shl_small hji9
    obtain rfl := Option.some.inj H
    go_enter Try.func26, Try.ntmps26
    go_wp2_with (first | ((with_reducible refine gate_callee (f := 45) rfl ?_); refine goesL_ (some 10) rfl rfl Try.func45 (by kernel_rfl) rfl #[.int .i64 a1, .int .i64 a2] rfl (by (try simp only [List.map_toArray, List.map_cons, List.map_nil]); first | done | rfl | (simp only [List.length_drop, List.length_take]; rfl)) ?_; (with_reducible refine (digit_shift.calls a1 a2 t117 _ A4.out).mono ?_); rintro e w10 ⟨rfl, hb⟩; refine ⟨_, rfl, ?_⟩; have n0_ := Aside0.mk (below_step (by repeat (first | (with_reducible first | exact HB.out | apply below_alloc | apply pw_below_drewN | apply below_drew1) | exact HB.out)) hb); clear HB; have HB := n0_; clear n0_; (try clear hb); (try clear hb2); (try clear hk); (try clear hi)) | ((with_reducible refine gate_callee (f := 44) rfl ?_); refine goesL_ (some 12) rfl rfl Try.func44 (by kernel_rfl) rfl #[.int .i64 a0] rfl (by (try simp only [List.map_toArray, List.map_cons, List.map_nil]); first | done | rfl | (simp only [List.length_drop, List.length_take]; rfl)) ?_; (with_reducible refine (digit_time.calls a0 t118 _ A5.out).mono ?_); rintro e w11 ⟨rfl, hb⟩; refine ⟨_, rfl, ?_⟩; have n0_ := Aside0.mk (below_step (by repeat (first | (with_reducible first | exact HB.out | apply below_alloc | apply pw_below_drewN | apply below_drew1) | exact HB.out)) hb); clear HB; have HB := n0_; clear n0_; (try clear hb); (try clear hb2); (try clear hk); (try clear hi)))
    go_ret
    exact ⟨by first | rfl | (simp [errW_none, errW_some] <;> rfl) | (simp only [← hji7, ← hji9]; first | rfl | (simp [errW_none, errW_some] <;> rfl)) | (simp [*, errW_none, errW_some] <;> rfl), by repeat (first | (with_reducible first | exact HB.out | apply below_alloc | apply pw_below_drewN | apply below_drew1) | exact HB.out)⟩
  · rw [if_neg c6] at H
    exact absurd H (by simp)

/-! ### knelllaw05_DigitOrders: function 7 -/
def knelllaw05_DigitOrders.j0 : Nat → Int → Int → Int → Int → Bool → Option (Bool)
  | 0, _, _, _, _, _ => none
  | k + 1, x7, x8, x9, x10, x52 => if x52 = true then (some false) else ((digit_Digit.f x8 x10 x7).bind fun t124 => ((digit_Digit.f x9 x10 x7).bind fun t125 => (some ((decide (x8 < x9)) == (decide (t124 < t125))))))
def knelllaw05_DigitOrders.f (k : Nat) (a0 : Int) (a1 : Int) (a2 : Int) : Option (Bool) := (knelllaw05_speaks.f k).bind fun t119 => (if t119 = true then ((digit_Top.f k (wrap64 (a0)) (wrap64 (a1)) (wrap64 (1 + (Int.tmod (wrap64 (a2)) 6)))).bind fun t120 => (if (wrap64 (a0)) = (wrap64 (a1)) then (some (t120 == (-1))) else (if t120 < 0 then (knelllaw05_DigitOrders.j0 k (wrap64 (1 + (Int.tmod (wrap64 (a2)) 6))) (wrap64 (a0)) (wrap64 (a1)) t120 true) else ((digit_Top.f k (wrap64 (a1)) (wrap64 (a0)) (wrap64 (1 + (Int.tmod (wrap64 (a2)) 6)))).bind fun t121 => (if t121 = t120 then ((digit_Floor.f (wrap64 (a0)) (wrap64 (t120 + 1)) (wrap64 (1 + (Int.tmod (wrap64 (a2)) 6)))).bind fun t122 => ((digit_Floor.f (wrap64 (a1)) (wrap64 (t120 + 1)) (wrap64 (1 + (Int.tmod (wrap64 (a2)) 6)))).bind fun t123 => (knelllaw05_DigitOrders.j0 k (wrap64 (1 + (Int.tmod (wrap64 (a2)) 6))) (wrap64 (a0)) (wrap64 (a1)) t120 (t122 != t123)))) else (knelllaw05_DigitOrders.j0 k (wrap64 (1 + (Int.tmod (wrap64 (a2)) 6))) (wrap64 (a0)) (wrap64 (a1)) t120 true)))))) else (some false))
theorem knelllaw05_DigitOrders.mono_l : ∀ k, (∀ y0 y1 y2 y3 y4, LeO (knelllaw05_DigitOrders.j0 k y0 y1 y2 y3 y4) (knelllaw05_DigitOrders.j0 (k + 1) y0 y1 y2 y3 y4))
  | 0 => fun _ _ _ _ _ r h => by simp [knelllaw05_DigitOrders.j0] at h
  | k + 1 => by
    have ih0 := knelllaw05_DigitOrders.mono_l k
    · intro y0 y1 y2 y3 y4
      unfold knelllaw05_DigitOrders.j0
      repeat' first
      | (with_reducible exact ih0 _ _ _ _ _)
      | (with_reducible exact digit_Top.mono _ _ _ _)
      | (with_reducible exact knelllaw05_speaks.mono _)
      | (with_reducible exact LeO.refl _)
      | (with_reducible exact LeO.none _)
      | (with_reducible refine LeO.ite ?_ ?_)
      | (with_reducible refine LeO.bind ?_ (fun _ => ?_))
      | exact ih0 _ _ _ _ _
      | exact digit_Top.mono _ _ _ _
      | exact knelllaw05_speaks.mono _
      | exact LeO.none _
      | refine LeO.ite ?_ ?_
      | refine LeO.bind ?_ (fun _ => ?_)
theorem knelllaw05_DigitOrders.mono : ∀ a0 a1 a2 k, LeO (knelllaw05_DigitOrders.f k a0 a1 a2) (knelllaw05_DigitOrders.f (k + 1) a0 a1 a2) := by
  intro a0 a1 a2 k
  have ih0 := knelllaw05_DigitOrders.mono_l k
  unfold knelllaw05_DigitOrders.f
  repeat' first
      | (with_reducible exact ih0 _ _ _ _ _)
      | (with_reducible exact digit_Top.mono _ _ _ _)
      | (with_reducible exact knelllaw05_speaks.mono _)
      | (with_reducible exact LeO.refl _)
      | (with_reducible exact LeO.none _)
      | (with_reducible refine LeO.ite ?_ ?_)
      | (with_reducible refine LeO.bind ?_ (fun _ => ?_))
      | exact ih0 _ _ _ _ _
      | exact digit_Top.mono _ _ _ _
      | exact knelllaw05_speaks.mono _
      | exact LeO.none _
      | refine LeO.ite ?_ ?_
      | refine LeO.bind ?_ (fun _ => ?_)
set_option maxHeartbeats 8000000 in
set_option maxRecDepth 100000 in
theorem knelllaw05_DigitOrders.calls (k : Nat) (a0 : Int) (a1 : Int) (a2 : Int) (r : Bool) (w : World) (h : knelllaw05_DigitOrders.f k a0 a1 a2 = some r) :
    Calls Try.prog 7 #[.int .u32 a0, .int .u32 a1, .int .u8 a2] w fun e w' => e = .returned (.bool r) ∧ Below w.heap.size w w' := by
  have HB := Aside0.mk (Below.refl w.heap.size w)
  have H : ((knelllaw05_speaks.f k).bind fun t119 => (if t119 = true then ((digit_Top.f k (wrap64 (a0)) (wrap64 (a1)) (wrap64 (1 + (Int.tmod (wrap64 (a2)) 6)))).bind fun t120 => (if (wrap64 (a0)) = (wrap64 (a1)) then (some (t120 == (-1))) else (if t120 < 0 then (knelllaw05_DigitOrders.j0 k (wrap64 (1 + (Int.tmod (wrap64 (a2)) 6))) (wrap64 (a0)) (wrap64 (a1)) t120 true) else ((digit_Top.f k (wrap64 (a1)) (wrap64 (a0)) (wrap64 (1 + (Int.tmod (wrap64 (a2)) 6)))).bind fun t121 => (if t121 = t120 then ((digit_Floor.f (wrap64 (a0)) (wrap64 (t120 + 1)) (wrap64 (1 + (Int.tmod (wrap64 (a2)) 6)))).bind fun t122 => ((digit_Floor.f (wrap64 (a1)) (wrap64 (t120 + 1)) (wrap64 (1 + (Int.tmod (wrap64 (a2)) 6)))).bind fun t123 => (knelllaw05_DigitOrders.j0 k (wrap64 (1 + (Int.tmod (wrap64 (a2)) 6))) (wrap64 (a0)) (wrap64 (a1)) t120 (t122 != t123)))) else (knelllaw05_DigitOrders.j0 k (wrap64 (1 + (Int.tmod (wrap64 (a2)) 6))) (wrap64 (a0)) (wrap64 (a1)) t120 true)))))) else (some false))) = some r := h
  clear h
  replace H := Option.bind_eq_some_iff.mp H
  obtain ⟨t119, A40, H⟩ := H
  replace H : (if t119 = true then ((digit_Top.f k (wrap64 (a0)) (wrap64 (a1)) (wrap64 (1 + (Int.tmod (wrap64 (a2)) 6)))).bind fun t120 => (if (wrap64 (a0)) = (wrap64 (a1)) then (some (t120 == (-1))) else (if t120 < 0 then (knelllaw05_DigitOrders.j0 k (wrap64 (1 + (Int.tmod (wrap64 (a2)) 6))) (wrap64 (a0)) (wrap64 (a1)) t120 true) else ((digit_Top.f k (wrap64 (a1)) (wrap64 (a0)) (wrap64 (1 + (Int.tmod (wrap64 (a2)) 6)))).bind fun t121 => (if t121 = t120 then ((digit_Floor.f (wrap64 (a0)) (wrap64 (t120 + 1)) (wrap64 (1 + (Int.tmod (wrap64 (a2)) 6)))).bind fun t122 => ((digit_Floor.f (wrap64 (a1)) (wrap64 (t120 + 1)) (wrap64 (1 + (Int.tmod (wrap64 (a2)) 6)))).bind fun t123 => (knelllaw05_DigitOrders.j0 k (wrap64 (1 + (Int.tmod (wrap64 (a2)) 6))) (wrap64 (a0)) (wrap64 (a1)) t120 (t122 != t123)))) else (knelllaw05_DigitOrders.j0 k (wrap64 (1 + (Int.tmod (wrap64 (a2)) 6))) (wrap64 (a0)) (wrap64 (a1)) t120 true)))))) else (some false)) = some r := H
  have A4 := Aside0.mk A40
  clear A40
  by_cases c5 : t119 = true
  · subst c5
    have H1 : ((digit_Top.f k (wrap64 (a0)) (wrap64 (a1)) (wrap64 (1 + (Int.tmod (wrap64 (a2)) 6)))).bind fun t120 => (if (wrap64 (a0)) = (wrap64 (a1)) then (some (t120 == (-1))) else (if t120 < 0 then (knelllaw05_DigitOrders.j0 k (wrap64 (1 + (Int.tmod (wrap64 (a2)) 6))) (wrap64 (a0)) (wrap64 (a1)) t120 true) else ((digit_Top.f k (wrap64 (a1)) (wrap64 (a0)) (wrap64 (1 + (Int.tmod (wrap64 (a2)) 6)))).bind fun t121 => (if t121 = t120 then ((digit_Floor.f (wrap64 (a0)) (wrap64 (t120 + 1)) (wrap64 (1 + (Int.tmod (wrap64 (a2)) 6)))).bind fun t122 => ((digit_Floor.f (wrap64 (a1)) (wrap64 (t120 + 1)) (wrap64 (1 + (Int.tmod (wrap64 (a2)) 6)))).bind fun t123 => (knelllaw05_DigitOrders.j0 k (wrap64 (1 + (Int.tmod (wrap64 (a2)) 6))) (wrap64 (a0)) (wrap64 (a1)) t120 (t122 != t123)))) else (knelllaw05_DigitOrders.j0 k (wrap64 (1 + (Int.tmod (wrap64 (a2)) 6))) (wrap64 (a0)) (wrap64 (a1)) t120 true)))))) = some r := by rw [if_pos rfl] at H; exact H
    clear H
    have H := H1
    clear H1
    replace H := Option.bind_eq_some_iff.mp H
    obtain ⟨t120, A60, H⟩ := H
    replace H : (if (wrap64 (a0)) = (wrap64 (a1)) then (some (t120 == (-1))) else (if t120 < 0 then (knelllaw05_DigitOrders.j0 k (wrap64 (1 + (Int.tmod (wrap64 (a2)) 6))) (wrap64 (a0)) (wrap64 (a1)) t120 true) else ((digit_Top.f k (wrap64 (a1)) (wrap64 (a0)) (wrap64 (1 + (Int.tmod (wrap64 (a2)) 6)))).bind fun t121 => (if t121 = t120 then ((digit_Floor.f (wrap64 (a0)) (wrap64 (t120 + 1)) (wrap64 (1 + (Int.tmod (wrap64 (a2)) 6)))).bind fun t122 => ((digit_Floor.f (wrap64 (a1)) (wrap64 (t120 + 1)) (wrap64 (1 + (Int.tmod (wrap64 (a2)) 6)))).bind fun t123 => (knelllaw05_DigitOrders.j0 k (wrap64 (1 + (Int.tmod (wrap64 (a2)) 6))) (wrap64 (a0)) (wrap64 (a1)) t120 (t122 != t123)))) else (knelllaw05_DigitOrders.j0 k (wrap64 (1 + (Int.tmod (wrap64 (a2)) 6))) (wrap64 (a0)) (wrap64 (a1)) t120 true))))) = some r := H
    have A6 := Aside0.mk A60
    clear A60
    by_cases c7 : (wrap64 (a0)) = (wrap64 (a1))
    · rw [if_pos c7] at H
      have c7b0 : ((wrap64 (a0)) == (wrap64 (a1))) = true := beq_iff_eq.mpr c7
      have c7b1 : ((wrap64 (a0)) != (wrap64 (a1))) = false := bne_eq_false_iff_eq.mpr c7
      clear c7
      obtain rfl := Option.some.inj H
      go_enter Try.func7, Try.ntmps7
      go_wp2_with (first | ((with_reducible refine gate_callee (f := 21) rfl ?_); refine goesL_ (some 11) rfl rfl Try.func21 (by kernel_rfl) rfl #[] rfl (by (try simp only [List.map_toArray, List.map_cons, List.map_nil]); first | done | rfl | (simp only [List.length_drop, List.length_take]; rfl)) ?_; (with_reducible refine (knelllaw05_speaks.calls k  true _ A4.out).mono ?_); rintro e w8 ⟨rfl, hb⟩; refine ⟨_, rfl, ?_⟩; have n0_ := Aside0.mk (below_step (by repeat (first | (with_reducible first | exact HB.out | apply below_alloc | apply pw_below_drewN | apply below_drew1) | exact HB.out)) hb); clear HB; have HB := n0_; clear n0_; (try clear hb); (try clear hb2); (try clear hk); (try clear hi)) | ((with_reducible refine gate_callee (f := 24) rfl ?_); refine goesL_ (some 24) rfl rfl Try.func24 (by kernel_rfl) rfl #[.int .i64 (wrap64 (a0)), .int .i64 (wrap64 (a1)), .int .i64 (wrap64 (1 + (Int.tmod (wrap64 (a2)) 6)))] rfl (by (try simp only [List.map_toArray, List.map_cons, List.map_nil]); first | done | rfl | (simp only [List.length_drop, List.length_take]; rfl)) ?_; (with_reducible refine (digit_Top.calls k (wrap64 (a0)) (wrap64 (a1)) (wrap64 (1 + (Int.tmod (wrap64 (a2)) 6))) t120 _ A6.out).mono ?_); rintro e w9 ⟨rfl, hb⟩; refine ⟨_, rfl, ?_⟩; have n0_ := Aside0.mk (below_step (by repeat (first | (with_reducible first | exact HB.out | apply below_alloc | apply pw_below_drewN | apply below_drew1) | exact HB.out)) hb); clear HB; have HB := n0_; clear n0_; (try clear hb); (try clear hb2); (try clear hk); (try clear hi)))
      go_ret
      exact ⟨by first | rfl | (simp [errW_none, errW_some] <;> rfl) | (simp [*, errW_none, errW_some] <;> rfl), by repeat (first | (with_reducible first | exact HB.out | apply below_alloc | apply pw_below_drewN | apply below_drew1) | exact HB.out)⟩
    · rw [if_neg c7] at H
      have c7b0 : ((wrap64 (a0)) == (wrap64 (a1))) = false := beq_eq_false_iff_ne.mpr c7
      have c7b1 : ((wrap64 (a0)) != (wrap64 (a1))) = true := bne_iff_ne.mpr c7
      have HC10 := Aside0.mk H
      clear H
      go_enter Try.func7, Try.ntmps7
      go_upto_region 8 with (first | ((with_reducible refine gate_callee (f := 21) rfl ?_); refine goesL_ (some 11) rfl rfl Try.func21 (by kernel_rfl) rfl #[] rfl (by (try simp only [List.map_toArray, List.map_cons, List.map_nil]); first | done | rfl | (simp only [List.length_drop, List.length_take]; rfl)) ?_; (with_reducible refine (knelllaw05_speaks.calls k  true _ A4.out).mono ?_); rintro e w11 ⟨rfl, hb⟩; refine ⟨_, rfl, ?_⟩; have n0_ := Aside0.mk (below_step (by repeat (first | (with_reducible first | exact HB.out | apply below_alloc | apply pw_below_drewN | apply below_drew1) | exact HB.out)) hb); clear HB; have HB := n0_; clear n0_; (try clear hb); (try clear hb2); (try clear hk); (try clear hi)) | ((with_reducible refine gate_callee (f := 24) rfl ?_); refine goesL_ (some 24) rfl rfl Try.func24 (by kernel_rfl) rfl #[.int .i64 (wrap64 (a0)), .int .i64 (wrap64 (a1)), .int .i64 (wrap64 (1 + (Int.tmod (wrap64 (a2)) 6)))] rfl (by (try simp only [List.map_toArray, List.map_cons, List.map_nil]); first | done | rfl | (simp only [List.length_drop, List.length_take]; rfl)) ?_; (with_reducible refine (digit_Top.calls k (wrap64 (a0)) (wrap64 (a1)) (wrap64 (1 + (Int.tmod (wrap64 (a2)) 6))) t120 _ A6.out).mono ?_); rintro e w12 ⟨rfl, hb⟩; refine ⟨_, rfl, ?_⟩; have n0_ := Aside0.mk (below_step (by repeat (first | (with_reducible first | exact HB.out | apply below_alloc | apply pw_below_drewN | apply below_drew1) | exact HB.out)) hb); clear HB; have HB := n0_; clear n0_; (try clear hb); (try clear hb2); (try clear hk); (try clear hi)))
      (try simp only [Act.put, List.setIfInBounds_toArray, List.set_cons_zero, List.set_cons_succ])
      go_cut [52] (fun v52 wc => ∃ (kq : Nat) (x52_9 : Bool), v52 = .bool x52_9 ∧ Aside0 (knelllaw05_DigitOrders.j0 kq (wrap64 (1 + (Int.tmod (wrap64 (a2)) 6))) (wrap64 (a0)) (wrap64 (a1)) t120 x52_9 = some r) ∧ Aside0 (kq ≤ k) ∧ Aside0 (Below w.heap.size w wc))
      case first =>
        have H := HC10.out
        clear HC10
        by_cases c13 : t120 < 0
        · rw [if_pos c13] at H
          have c13b0 : decide (t120 < 0) = true := decide_eq_true c13
          clear c13
          (first | rw [c13b0] | (simp only [i64_w, i32_w]; rw [c13b0]) | skip)
          have H' := Aside0.mk H
          clear H
          go_wp2
          go_meet
          case rel => exact ⟨_, (true), (by first | rfl | (simp; done) | (simp [*]; done)), H', ⟨by first | omega | exact Nat.le_refl _⟩, ⟨by repeat (first | (with_reducible first | exact HB.out | apply below_alloc | apply pw_below_drewN | apply below_drew1) | exact HB.out)⟩⟩
        · rw [if_neg c13] at H
          have c13b0 : decide (t120 < 0) = false := decide_eq_false c13
          clear c13
          (first | rw [c13b0] | (simp only [i64_w, i32_w]; rw [c13b0]) | skip)
          replace H := Option.bind_eq_some_iff.mp H
          obtain ⟨t121, A140, H⟩ := H
          replace H : (if t121 = t120 then ((digit_Floor.f (wrap64 (a0)) (wrap64 (t120 + 1)) (wrap64 (1 + (Int.tmod (wrap64 (a2)) 6)))).bind fun t122 => ((digit_Floor.f (wrap64 (a1)) (wrap64 (t120 + 1)) (wrap64 (1 + (Int.tmod (wrap64 (a2)) 6)))).bind fun t123 => (knelllaw05_DigitOrders.j0 k (wrap64 (1 + (Int.tmod (wrap64 (a2)) 6))) (wrap64 (a0)) (wrap64 (a1)) t120 (t122 != t123)))) else (knelllaw05_DigitOrders.j0 k (wrap64 (1 + (Int.tmod (wrap64 (a2)) 6))) (wrap64 (a0)) (wrap64 (a1)) t120 true)) = some r := H
          have A14 := Aside0.mk A140
          clear A140
          by_cases c15 : t121 = t120
          · rw [if_pos c15] at H
            have c15b0 : (t121 == t120) = true := beq_iff_eq.mpr c15
            have c15b1 : (t121 != t120) = false := bne_eq_false_iff_eq.mpr c15
            clear c15
            replace H := Option.bind_eq_some_iff.mp H
            obtain ⟨t122, A160, H⟩ := H
            replace H : ((digit_Floor.f (wrap64 (a1)) (wrap64 (t120 + 1)) (wrap64 (1 + (Int.tmod (wrap64 (a2)) 6)))).bind fun t123 => (knelllaw05_DigitOrders.j0 k (wrap64 (1 + (Int.tmod (wrap64 (a2)) 6))) (wrap64 (a0)) (wrap64 (a1)) t120 (t122 != t123))) = some r := H
            have A16 := Aside0.mk A160
            clear A160
            replace H := Option.bind_eq_some_iff.mp H
            obtain ⟨t123, A170, H⟩ := H
            replace H : (knelllaw05_DigitOrders.j0 k (wrap64 (1 + (Int.tmod (wrap64 (a2)) 6))) (wrap64 (a0)) (wrap64 (a1)) t120 (t122 != t123)) = some r := H
            have A17 := Aside0.mk A170
            clear A170
            have H' := Aside0.mk H
            clear H
            go_wp2_with (first | (go_at_call 24; (with_reducible refine (digit_Top.calls k (wrap64 (a1)) (wrap64 (a0)) (wrap64 (1 + (Int.tmod (wrap64 (a2)) 6))) t121 _ A14.out).mono ?_); rintro e w18 ⟨rfl, hb⟩; have n0_ := Aside0.mk (below_step (by repeat (first | (with_reducible first | exact HB.out | apply below_alloc | apply pw_below_drewN | apply below_drew1) | exact HB.out)) hb); clear HB; have HB := n0_; clear n0_; (try clear hb); (try clear hb2); (try clear hk); (try clear hi)) | (go_at_call 26; (with_reducible refine (digit_Floor.calls (wrap64 (a0)) (wrap64 (t120 + 1)) (wrap64 (1 + (Int.tmod (wrap64 (a2)) 6))) t122 _ A16.out).mono ?_); rintro e w19 ⟨rfl, hb⟩; have n0_ := Aside0.mk (below_step (by repeat (first | (with_reducible first | exact HB.out | apply below_alloc | apply pw_below_drewN | apply below_drew1) | exact HB.out)) hb); clear HB; have HB := n0_; clear n0_; (try clear hb); (try clear hb2); (try clear hk); (try clear hi)) | (go_at_call 26; (with_reducible refine (digit_Floor.calls (wrap64 (a1)) (wrap64 (t120 + 1)) (wrap64 (1 + (Int.tmod (wrap64 (a2)) 6))) t123 _ A17.out).mono ?_); rintro e w20 ⟨rfl, hb⟩; have n0_ := Aside0.mk (below_step (by repeat (first | (with_reducible first | exact HB.out | apply below_alloc | apply pw_below_drewN | apply below_drew1) | exact HB.out)) hb); clear HB; have HB := n0_; clear n0_; (try clear hb); (try clear hb2); (try clear hk); (try clear hi)))
            go_meet
            case rel => exact ⟨_, ((t122 != t123)), (by first | rfl | (simp; done) | (simp [*]; done)), H', ⟨by first | omega | exact Nat.le_refl _⟩, ⟨by repeat (first | (with_reducible first | exact HB.out | apply below_alloc | apply pw_below_drewN | apply below_drew1) | exact HB.out)⟩⟩
          · rw [if_neg c15] at H
            have c15b0 : (t121 == t120) = false := beq_eq_false_iff_ne.mpr c15
            have c15b1 : (t121 != t120) = true := bne_iff_ne.mpr c15
            have H' := Aside0.mk H
            clear H
            go_wp2_with (first | (go_at_call 24; (with_reducible refine (digit_Top.calls k (wrap64 (a1)) (wrap64 (a0)) (wrap64 (1 + (Int.tmod (wrap64 (a2)) 6))) t121 _ A14.out).mono ?_); rintro e w21 ⟨rfl, hb⟩; have n0_ := Aside0.mk (below_step (by repeat (first | (with_reducible first | exact HB.out | apply below_alloc | apply pw_below_drewN | apply below_drew1) | exact HB.out)) hb); clear HB; have HB := n0_; clear n0_; (try clear hb); (try clear hb2); (try clear hk); (try clear hi)))
            go_meet
            case rel => exact ⟨_, (true), (by first | rfl | (simp; done) | (simp [*]; done)), H', ⟨by first | omega | exact Nat.le_refl _⟩, ⟨by repeat (first | (with_reducible first | exact HB.out | apply below_alloc | apply pw_below_drewN | apply below_drew1) | exact HB.out)⟩⟩
      case rest =>
        clear HC10
        try clear c1
        try clear c2
        try clear p2
        try clear c5
        try clear p6
        try clear c7
        try clear c7b0
        try clear c7b1
        try clear c13
        try clear c13b0
        try clear c15
        try clear c15b0
        try clear c15b1
        try clear c21
        obtain ⟨kq, x52_9, rfl, HA, HJ9, HB⟩ := hcut
        cases kq with
        | zero => exact absurd HA.out (by simp [knelllaw05_DigitOrders.j0])
        | succ kj9 =>
          have H := HA.out
          clear HA
          simp only [knelllaw05_DigitOrders.j0] at H
          by_cases c22 : x52_9 = true
          · subst c22
            have H1 : (some false) = some r := by rw [if_pos rfl] at H; exact H
            clear H
            have H := H1
            clear H1
            obtain rfl := Option.some.inj H
            go_wp2
            go_ret
            exact ⟨by first | rfl | (simp [errW_none, errW_some] <;> rfl) | (simp [*, errW_none, errW_some] <;> rfl), by repeat (first | (with_reducible first | exact HB.out | apply below_alloc | apply pw_below_drewN | apply below_drew1) | exact HB.out)⟩
          · replace c22 := Bool.eq_false_iff.mpr c22
            subst c22
            have H1 : ((digit_Digit.f (wrap64 (a0)) t120 (wrap64 (1 + (Int.tmod (wrap64 (a2)) 6)))).bind fun t124 => ((digit_Digit.f (wrap64 (a1)) t120 (wrap64 (1 + (Int.tmod (wrap64 (a2)) 6)))).bind fun t125 => (some ((decide ((wrap64 (a0)) < (wrap64 (a1)))) == (decide (t124 < t125)))))) = some r := by rw [if_neg (show ¬ (false = true) by decide)] at H; exact H
            clear H
            have H := H1
            clear H1
            replace H := Option.bind_eq_some_iff.mp H
            obtain ⟨t124, A230, H⟩ := H
            replace H : ((digit_Digit.f (wrap64 (a1)) t120 (wrap64 (1 + (Int.tmod (wrap64 (a2)) 6)))).bind fun t125 => (some ((decide ((wrap64 (a0)) < (wrap64 (a1)))) == (decide (t124 < t125))))) = some r := H
            have A23 := Aside0.mk A230
            clear A230
            replace H := Option.bind_eq_some_iff.mp H
            obtain ⟨t125, A240, H⟩ := H
            replace H : (some ((decide ((wrap64 (a0)) < (wrap64 (a1)))) == (decide (t124 < t125)))) = some r := H
            have A24 := Aside0.mk A240
            clear A240
            obtain rfl := Option.some.inj H
            go_wp2_with (first | ((with_reducible refine gate_callee (f := 22) rfl ?_); refine goesL_ (some 59) rfl rfl Try.func22 (by kernel_rfl) rfl #[.int .i64 (wrap64 (a0)), .int .i64 t120, .int .i64 (wrap64 (1 + (Int.tmod (wrap64 (a2)) 6)))] rfl (by (try simp only [List.map_toArray, List.map_cons, List.map_nil]); first | done | rfl | (simp only [List.length_drop, List.length_take]; rfl)) ?_; (with_reducible refine (digit_Digit.calls (wrap64 (a0)) t120 (wrap64 (1 + (Int.tmod (wrap64 (a2)) 6))) t124 _ A23.out).mono ?_); rintro e w25 ⟨rfl, hb⟩; refine ⟨_, rfl, ?_⟩; have n0_ := Aside0.mk (below_step (by repeat (first | (with_reducible first | exact HB.out | apply below_alloc | apply pw_below_drewN | apply below_drew1) | exact HB.out)) hb); clear HB; have HB := n0_; clear n0_; (try clear hb); (try clear hb2); (try clear hk); (try clear hi)) | ((with_reducible refine gate_callee (f := 22) rfl ?_); refine goesL_ (some 63) rfl rfl Try.func22 (by kernel_rfl) rfl #[.int .i64 (wrap64 (a1)), .int .i64 t120, .int .i64 (wrap64 (1 + (Int.tmod (wrap64 (a2)) 6)))] rfl (by (try simp only [List.map_toArray, List.map_cons, List.map_nil]); first | done | rfl | (simp only [List.length_drop, List.length_take]; rfl)) ?_; (with_reducible refine (digit_Digit.calls (wrap64 (a1)) t120 (wrap64 (1 + (Int.tmod (wrap64 (a2)) 6))) t125 _ A24.out).mono ?_); rintro e w26 ⟨rfl, hb⟩; refine ⟨_, rfl, ?_⟩; have n0_ := Aside0.mk (below_step (by repeat (first | (with_reducible first | exact HB.out | apply below_alloc | apply pw_below_drewN | apply below_drew1) | exact HB.out)) hb); clear HB; have HB := n0_; clear n0_; (try clear hb); (try clear hb2); (try clear hk); (try clear hi)))
            go_ret
            exact ⟨by first | rfl | (simp [errW_none, errW_some] <;> rfl) | (simp [*, errW_none, errW_some] <;> rfl), by repeat (first | (with_reducible first | exact HB.out | apply below_alloc | apply pw_below_drewN | apply below_drew1) | exact HB.out)⟩
  · replace c5 := Bool.eq_false_iff.mpr c5
    subst c5
    have H1 : (some false) = some r := by rw [if_neg (show ¬ (false = true) by decide)] at H; exact H
    clear H
    have H := H1
    clear H1
    obtain rfl := Option.some.inj H
    go_enter Try.func7, Try.ntmps7
    go_wp2_with (first | ((with_reducible refine gate_callee (f := 21) rfl ?_); refine goesL_ (some 11) rfl rfl Try.func21 (by kernel_rfl) rfl #[] rfl (by (try simp only [List.map_toArray, List.map_cons, List.map_nil]); first | done | rfl | (simp only [List.length_drop, List.length_take]; rfl)) ?_; (with_reducible refine (knelllaw05_speaks.calls k  false _ A4.out).mono ?_); rintro e w27 ⟨rfl, hb⟩; refine ⟨_, rfl, ?_⟩; have n0_ := Aside0.mk (below_step (by repeat (first | (with_reducible first | exact HB.out | apply below_alloc | apply pw_below_drewN | apply below_drew1) | exact HB.out)) hb); clear HB; have HB := n0_; clear n0_; (try clear hb); (try clear hb2); (try clear hk); (try clear hi)))
    go_ret
    exact ⟨by first | rfl | (simp [errW_none, errW_some] <;> rfl) | (simp [*, errW_none, errW_some] <;> rfl), by repeat (first | (with_reducible first | exact HB.out | apply below_alloc | apply pw_below_drewN | apply below_drew1) | exact HB.out)⟩

/-- THE ONE PURE STATEMENT of knelllaw05_DigitOrders: yours. -/
def knelllaw05_DigitOrders.Pure : Prop := ∀ (a0 : Int) (a1 : Int) (a2 : Int), (Lit.int .u32 a0).wf = true → (Lit.int .u32 a1).wf = true → (Lit.int .u8 a2).wf = true → ∃ k, knelllaw05_DigitOrders.f k a0 a1 a2 = some true
theorem knelllaw05_DigitOrders.walk (P : knelllaw05_DigitOrders.Pure) (a0 : Int) (a1 : Int) (a2 : Int) (w : World) (w0 : (Lit.int .u32 a0).wf = true) (w1 : (Lit.int .u32 a1).wf = true) (w2 : (Lit.int .u8 a2).wf = true) :
    Calls Try.prog 7 #[.int .u32 a0, .int .u32 a1, .int .u8 a2] w fun e w' => e = .returned (.bool true) ∧ Below w.heap.size w w' := by
  obtain ⟨k, h⟩ := P a0 a1 a2 w0 w1 w2
  refine (knelllaw05_DigitOrders.calls k a0 a1 a2 true w h).mono ?_
  rintro e w' ⟨rfl, hd⟩
  exact ⟨rfl, hd⟩

end Go.Proofs.Ytdmjokkjhbdnnaa.PDigitOrders
