/- Package bits, walked: sets of slots. -/
import Derived.Test.YtndpkonihcebeaaBase
import Derived.Test.YtndpkonihcebeaaSetN
namespace Go.Proofs.Ytndpkonihcebeaa.Bits
open Go.RowKit Go.Proofs.Ytndpkonihcebeaa Go.Proofs.Ytndpkonihcebeaa.Num Go.Proofs.Ytndpkonihcebeaa.SetN
set_option linter.unusedVariables false
set_option linter.unusedSimpArgs false

theorem ret_of {k : IntKind} {a b : Int} (h : a = b) : Ending.returned (.int k a) = .returned (.int k b) := by rw [h]
theorem retb_of {a b : Bool} (h : a = b) : Ending.returned (.bool a) = .returned (.bool b) := by rw [h]
theorem one_int (i : Nat) (h : i < 64) : IntKind.u64.wrap (2 ^ i) = ((2 ^ i : Nat) : Int) := by
  have hp := pow_lt64 h
  have e : (2 : Int) ^ i = ((2 ^ i : Nat) : Int) := by simp
  rw [e]
  generalize 2 ^ i = p at hp ⊢
  rw [IntKind.wrap_u64]
  omega

set_option maxHeartbeats 400000 in
theorem one_yes (i : Nat) (h : i < 64) (w : World) : Calls Try.prog 125 #[.int .i64 (i : Int)] w fun e w' => e = .returned (.int .u64 ((2 ^ i : Nat) : Int)) ∧ w = w' := by
  have hm := Lib.hid (one_int i h)
  go_enter Try.func125, Try.ntmps125
  go_wp2
  go_ret
  exact ⟨ret_of (by simpa using hm.out), rfl⟩
set_option maxHeartbeats 400000 in
theorem one_no (i : Int) (h : ¬ (0 ≤ i ∧ i < 64)) (w : World) : Calls Try.prog 125 #[.int .i64 i] w fun e w' => e = .returned (.int .u64 0) ∧ w = w' := by
  by_cases h0 : i < 0
  · clear h
    go_enter Try.func125, Try.ntmps125
    go_wp2
    go_ret
    exact ⟨rfl, rfl⟩
  · have h1 : 64 ≤ i := by omega
    clear h
    go_enter Try.func125, Try.ntmps125
    go_wp2
    go_ret
    exact ⟨rfl, rfl⟩

theorem has_int (s i : Nat) (hs : s < 2 ^ 64) (h : i < 64) : (bits .and .u64 (s : Int) ((2 ^ i : Nat) : Int) != 0) = s.testBit i := by
  rw [bits_and _ _ hs (pow_lt64 h)]
  cases e : s.testBit i with
  | false => rw [(has_iff s i).2 e]; rfl
  | true =>
    rw [bne_iff_ne]
    intro h0
    have := (has_iff s i).1 (by omega)
    simp [e] at this
set_option maxHeartbeats 400000 in
theorem With_yes (s i : Nat) (hs : s < 2 ^ 64) (h : i < 64) (w : World) : Calls Try.prog 103 #[.int .u64 s, .int .i64 (i : Int)] w fun e w' => e = .returned (.int .u64 (putIn s i)) ∧ w = w' := by
  have hm := Lib.hid (bits_or s (2 ^ i) hs (pow_lt64 h))
  have H := Lib.hid (one_yes i h)
  unfold putIn
  generalize 2 ^ i = p at hm H
  clear hs h
  go_enter Try.func103, Try.ntmps103
  go_wp2_with (first | (go_at_call 125; refine (H.out _).mono ?_; rintro e w' ⟨rfl, rfl⟩))
  go_ret
  exact ⟨ret_of (by simpa using hm.out), rfl⟩
set_option maxHeartbeats 400000 in
theorem With_no (s : Nat) (i : Int) (hs : s < 2 ^ 64) (h : ¬ (0 ≤ i ∧ i < 64)) (w : World) : Calls Try.prog 103 #[.int .u64 s, .int .i64 i] w fun e w' => e = .returned (.int .u64 s) ∧ w = w' := by
  have hm : Hid (bits .or .u64 (s : Int) 0 = s) := by
    show _ = _
    have := bits_or s 0 hs (by decide)
    rw [show ((0 : Nat) : Int) = 0 by rfl] at this
    rw [this]; simp
  have H := Lib.hid (one_no i h)
  clear hs h
  go_enter Try.func103, Try.ntmps103
  go_wp2_with (first | (go_at_call 125; refine (H.out _).mono ?_; rintro e w' ⟨rfl, rfl⟩))
  go_ret
  exact ⟨ret_of (by simpa using hm.out), rfl⟩

theorem and_pred (s : Nat) (h : s ≠ 0) (hs : s < 2 ^ 64) : bits .and .u64 (s : Int) (IntKind.u64.wrap ((s : Int) - 1)) = ((s &&& (s - 1) : Nat) : Int) := by
  rw [show IntKind.u64.wrap ((s : Int) - 1) = ((s - 1 : Nat) : Int) by rw [IntKind.wrap_u64]; omega]
  exact bits_and _ _ hs (by omega)
set_option maxHeartbeats 400000 in
theorem Count_c (s : Nat) (hs : s < 2 ^ 64) (w : World) : Calls Try.prog 151 #[.int .u64 s] w fun e w' => e = .returned (.int .i64 (pop s : Int)) ∧ w = w' := by
  go_enter Try.func151, Try.ntmps151
  go_wp2
  go_loop [0, 3] (fun x n => ∃ k t : Nat, k ≤ 64 ∧ x = .int .u64 t ∧ n = .int .i64 k ∧ Hid (k + pop t = pop s ∧ t < 2 ^ 64)) (fun _ n => (64 - intOf n).toNat)
  case atStart => exact ⟨0, s, by omega, rfl, rfl, show _ ∧ _ from ⟨by omega, hs⟩⟩
  case round =>
    obtain ⟨k, t, hk, rfl, rfl, HT⟩ := hrel
    by_cases ht : t = 0
    · subst ht
      have hp : Hid (k = pop s) := by show _ = _; have := HT.out.1; rw [pop_zero] at this; omega
      clear HT
      go_wp2
      go_ret
      exact ⟨ret_of (by rw [hp.out]), rfl⟩
    · have hne : ((t : Int) == 0) = false := by rw [beq_eq_false_iff_ne]; omega
      have ha := Lib.hid (and_pred t ht HT.out.2)
      have hlow := pop_low ht HT.out.2
      have hle := pop_le s
      have hk1 : k + 1 ≤ 64 := by have := HT.out.1; omega
      have HT' : Hid (k + 1 + pop (t &&& (t - 1)) = pop s ∧ (t &&& (t - 1)) < 2 ^ 64) := by
        show _ ∧ _
        exact ⟨by have := HT.out.1; omega, Nat.lt_of_le_of_lt Nat.and_le_left HT.out.2⟩
      clear HT hlow hle
      generalize t &&& (t - 1) = u at ha HT'
      go_wp2
      go_round
      case rel => exact ⟨k + 1, u, hk1, by first | rw [← ha.out] | simp [← ha.out], by go_num, HT'⟩
      case measure => simp [intOf]; omega

set_option maxHeartbeats 400000 in
theorem With_c (s : Nat) (i : Int) (hs : s < 2 ^ 64) (w : World) : Calls Try.prog 103 #[.int .u64 s, .int .i64 i] w fun e w' => e = .returned (.int .u64 (addI s i)) ∧ w = w' := by
  by_cases h : 0 ≤ i ∧ i < 64
  · obtain ⟨n, rfl⟩ := Int.eq_ofNat_of_zero_le h.1
    unfold addI
    rw [if_pos h]
    exact With_yes s n hs (by omega) w
  · unfold addI
    rw [if_neg h]
    exact With_no s i hs h w


theorem btw_int (s f t : Nat) (hs : s < 2 ^ 64) : IntKind.u64.wrap ((s : Int) / 2 ^ f * 2 ^ (f + 63 - t)) / 2 ^ (63 - t) = (btw s f t : Int) := by
  unfold btw
  have e : (s : Int) / 2 ^ f * 2 ^ (f + 63 - t) = ((s / 2 ^ f * 2 ^ (f + 63 - t) : Nat) : Int) := by simp
  rw [e, IntKind.wrap_u64]
  simp
set_option maxHeartbeats 1000000 in
theorem Between_yes (s f t : Nat) (a b : Int) (hs : s < 2 ^ 64) (ha : (if a < 0 then 0 else a) = (f : Int)) (hb : (if 63 < b then 63 else b) = (t : Int)) (h : f ≤ t) (ht : t ≤ 63) (w : World) :
    Calls Try.prog 130 #[.int .u64 s, .int .i64 a, .int .i64 b] w fun e w' => e = .returned (.int .u64 (btw s f t)) ∧ w = w' := by
  have hi := Lib.hid (btw_int s f t hs)
  clear hs
  go_enter Try.func130, Try.ntmps130
  go_wp2
  go_ret
  exact ⟨ret_of hi.out, rfl⟩
set_option maxHeartbeats 1000000 in
theorem Between_no (s a b f t : Int) (ha : (if a < 0 then 0 else a) = f) (hb : (if 63 < b then 63 else b) = t) (h : t < f) (w : World) :
    Calls Try.prog 130 #[.int .u64 s, .int .i64 a, .int .i64 b] w fun e w' => e = .returned (.int .u64 0) ∧ w = w' := by
  go_enter Try.func130, Try.ntmps130
  go_wp2
  go_ret
  exact ⟨rfl, rfl⟩

theorem low_int (r a : Nat) (hr : r < 2 ^ 64) (h : r.testBit a = true) (hl : ∀ i, i < a → r.testBit i = false) :
    IntKind.u64.wrap (bits .and .u64 (r : Int) (IntKind.u64.wrap (-(r : Int))) - 1) = ((2 ^ a - 1 : Nat) : Int) := by
  have h0 : r ≠ 0 := by rintro rfl; simp at h
  have e : IntKind.u64.wrap (-(r : Int)) = ((2 ^ 64 - r : Nat) : Int) := by rw [IntKind.wrap_u64]; omega
  have hp := pow_lt64 (bit_lt hr h)
  have hp1 := Nat.two_pow_pos a
  rw [e, bits_and _ _ hr (by omega), low_alone hr h hl]
  generalize 2 ^ a = p at hp hp1 ⊢
  rw [IntKind.wrap_u64]; omega
set_option maxHeartbeats 1000000 in
theorem Next_some (s : Nat) (a : Int) (n : Nat) (hs : s < 2 ^ 64) (hn : s.testBit n = true) (han : a ≤ n) (hl : ∀ i : Nat, a ≤ i → i < n → s.testBit i = false) (w : World) :
    Calls Try.prog 137 #[.int .u64 s, .int .i64 a] w fun e w' => e = .returned (.int .i64 (n : Int)) ∧ w = w' := by
  have hn64 := bit_lt hs hn
  obtain ⟨f, hf⟩ : ∃ f : Nat, (if a < 0 then 0 else a) = (f : Int) := ⟨a.toNat, by split <;> omega⟩
  have hfn : f ≤ n := by split at hf <;> omega
  have HB := Lib.hid (Between_yes s f 63 a 63 hs hf (by simp) (by omega) (by omega))
  have hb : (btw s f 63).testBit n = true := by rw [bit_btw (by omega) (by omega), hn]; simp; omega
  have hbl : ∀ i, i < n → (btw s f 63).testBit i = false := by
    intro i hi
    rw [bit_btw (by omega) (by omega)]
    by_cases hfi : f ≤ i
    · rw [hl i (by split at hf <;> omega) hi]; rfl
    · simp [hfi]
  have hlt := btw_lt s f 63
  generalize btw s f 63 = r at HB hb hbl hlt
  have hr0 : ((r : Int) == 0) = false := by
    rw [beq_eq_false_iff_ne]
    intro e
    obtain rfl : r = 0 := by omega
    simp at hb
  have hi := Lib.hid (low_int r n hlt hb hbl)
  have hp : 2 ^ n - 1 < 2 ^ 64 := Nat.lt_of_le_of_lt (Nat.sub_le _ _) (pow_lt64 hn64)
  have hc : ∀ w : World, Calls Try.prog 151 #[.int .u64 (IntKind.u64.wrap (bits .and .u64 (r : Int) (IntKind.u64.wrap (-(r : Int))) - 1))] w fun e w' => e = .returned (.int .i64 (n : Int)) ∧ w = w' := by
    intro w
    have h := Count_c (2 ^ n - 1) hp w
    rw [pop_ones (by omega)] at h
    rw [hi.out]; exact h
  have HC := Lib.hid hc
  clear hc hp hb hbl hlt hl hn hs hi hf
  go_enter Try.func137, Try.ntmps137
  go_wp2_with (first | (go_at_call 130; refine (HB.out _).mono ?_; rintro e w' ⟨rfl, rfl⟩) | (go_at_call 151; refine (HC.out _).mono ?_; rintro e w' ⟨rfl, rfl⟩))
  go_ret
  exact ⟨rfl, rfl⟩
set_option maxHeartbeats 1000000 in
theorem Next_none (s : Nat) (a : Int) (hs : s < 2 ^ 64) (hl : ∀ i : Nat, a ≤ i → i < 64 → s.testBit i = false) (w : World) :
    Calls Try.prog 137 #[.int .u64 s, .int .i64 a] w fun e w' => e = .returned (.int .i64 (-1)) ∧ w = w' := by
  have hc : ∀ w : World, Calls Try.prog 130 #[.int .u64 s, .int .i64 a, .int .i64 63] w fun e w' => e = .returned (.int .u64 0) ∧ w = w' := by
    intro w
    obtain ⟨f, hf⟩ : ∃ f : Nat, (if a < 0 then 0 else a) = (f : Int) := ⟨a.toNat, by split <;> omega⟩
    by_cases h : f ≤ 63
    · have h' := Between_yes s f 63 a 63 hs hf (by simp) (by omega) (by omega) w
      have e : btw s f 63 = 0 := by
        refine Nat.eq_of_testBit_eq fun i => ?_
        rw [bit_btw (by omega) (by omega)]
        by_cases hfi : f ≤ i
        · by_cases hi : i < 64
          · rw [hl i (by split at hf <;> omega) hi]; simp
          · simp [show ¬ i ≤ 63 by omega]
        · simp [hfi]
      rw [e] at h'
      exact h'
    · exact Between_no s a 63 f 63 hf (by simp) (by omega) w
  have HB := Lib.hid hc
  clear hc hl hs
  go_enter Try.func137, Try.ntmps137
  go_wp2_with (first | (go_at_call 130; refine (HB.out _).mono ?_; rintro e w' ⟨rfl, rfl⟩))
  go_ret
  exact ⟨rfl, rfl⟩
end Go.Proofs.Ytndpkonihcebeaa.Bits
