/- The plain part of DigitOrders: over numbers alone, no program in sight. -/
import Derived.Test.YtdmjokkjhbdnnaaPDigitOrdersx1
import Derived.Test.YtdmjokkjhbdnnaaNum
namespace Go.Proofs.Ytdmjokkjhbdnnaa.Pure
open Go.RowKit Go.Proofs.Ytdmjokkjhbdnnaa.PDigitOrders Go.Proofs.YtdmjokkjhbdnnaaW.PrintWords Go.Proofs.YtdmjokkjhbdnnaaW.PrintLast Go.Proofs.YtdmjokkjhbdnnaaW.PrintMore
open Go Go.Proofs.Ytdmjokkjhbdnnaa.Num

theorem time_eq (t : Int) : digit_time.f t = some (tm t : Int) := by
  unfold digit_time.f tm mn mx
  congr 1
  by_cases h1 : t < 0
  · rw [if_pos h1, if_neg (by omega), if_pos h1]; rfl
  · rw [if_neg h1, if_neg h1]
    by_cases h2 : 4294967295 < t
    · rw [if_pos h2, if_pos h2]; rfl
    · rw [if_neg h2, if_neg h2]; omega
theorem width_eq (b : Int) : digit_width.f b = some (wd b : Int) := by
  unfold digit_width.f wd mn mx
  congr 1
  by_cases h1 : b < 1
  · rw [if_pos h1, if_neg (by omega), if_pos h1]; rfl
  · rw [if_neg h1, if_neg h1]
    by_cases h2 : 6 < b
    · rw [if_pos h2, if_pos h2]; rfl
    · rw [if_neg h2, if_neg h2]; omega
theorem shift_eq (l b : Int) : digit_shift.f l b = some (sh l b : Int) := by
  unfold digit_shift.f
  rw [width_eq]
  simp only [Option.bind_some]
  have hm : mn (mx l 0) 64 = (lv l : Int) := by
    unfold lv mn mx
    by_cases h1 : l < 0
    · rw [if_pos h1, if_neg (by omega), if_pos h1]; rfl
    · rw [if_neg h1, if_neg h1]
      by_cases h2 : 64 < l
      · rw [if_pos h2, if_pos h2]; rfl
      · rw [if_neg h2, if_neg h2]; omega
  have hb := sh_bd l b
  unfold sh at hb ⊢
  have hc : (lv l : Int) * (wd b : Int) = ((lv l * wd b : Nat) : Int) := by simp
  rw [hm, hc]
  refine congrArg some ?_
  unfold wrap64; omega
theorem shr_nat (x s : Nat) (hx : x < 2 ^ 64) : shr .u64 (x : Int) (s : Int) = ((x / 2 ^ s : Nat) : Int) := by
  unfold shr
  show (x : Int) / 2 ^ min s 64 = _
  rw [← div_far hx]
  simp
theorem Digit_eq (t l b : Int) : digit_Digit.f t l b = some (dig t l b : Int) := by
  unfold digit_Digit.f dig
  rw [time_eq, shift_eq, width_eq]
  simp only [Option.bind_some]
  rw [if_pos (by omega), if_pos (by omega)]
  congr 1
  have ht := tm_lt t
  have hw := wd_bd b
  rw [shr_nat (tm t) (sh l b) (by omega)]
  have h1 : IntKind.u64.wrap ((shl .u64 1 (wd b : Int)) - 1) = ((2 ^ wd b - 1 : Nat) : Int) := by
    rcases hw with ⟨h1, h2⟩
    generalize wd b = n at h1 h2 ⊢
    have : n = 1 ∨ n = 2 ∨ n = 3 ∨ n = 4 ∨ n = 5 ∨ n = 6 := by omega
    rcases this with rfl | rfl | rfl | rfl | rfl | rfl <;> rfl
  rw [h1]
  have hq : tm t / 2 ^ sh l b < 4294967296 := Nat.lt_of_le_of_lt (Nat.div_le_self _ _) ht
  have hp : 2 ^ wd b ≤ 64 := Nat.le_trans (Nat.pow_le_pow_right (by decide) hw.2) (by decide)
  rw [bits_and (tm t / 2 ^ sh l b) (2 ^ wd b - 1) (by omega) (by omega), Nat.and_two_pow_sub_one_eq_mod]
  have hm : tm t / 2 ^ sh l b % 2 ^ wd b ≤ tm t / 2 ^ sh l b := Nat.mod_le _ _
  unfold wrap64; omega
theorem Top_l0 (b : Int) : ∀ (i x : Nat), Len (wd b) x i → x < 2 ^ 64 → ∀ (k : Nat) (j : Int), i < k → -1 ≤ j → j + i < 4294967296 → digit_Top.l0 k b j x = some (j + i) := by
  intro i
  induction i with
  | zero =>
    intro x h hx k j hk h1 h2
    obtain ⟨k, rfl⟩ : ∃ m, k = m + 1 := ⟨k - 1, by omega⟩
    have hx0 : x = 0 := by simpa using h.none
    subst hx0
    simp [digit_Top.l0]
  | succ i ih =>
    intro x h hx k j hk h1 h2
    obtain ⟨k, rfl⟩ : ∃ m, k = m + 1 := ⟨k - 1, by omega⟩
    have hx0 : x ≠ 0 := by have := h.some 0 (by omega); simpa using this
    have hl : Len (wd b) (x / 2 ^ wd b) i := by
      obtain ⟨i', hi'⟩ := Len.exists (wd_bd b).1 (x / 2 ^ wd b)
      have := (hi'.succ hx0).unique h
      obtain rfl : i' = i := by omega
      exact hi'
    simp only [digit_Top.l0]
    rw [if_neg (by omega), width_eq]
    simp only [Option.bind_some]
    rw [if_pos (by omega), shr_nat _ _ hx, ih _ hl (Nat.lt_of_le_of_lt (Nat.div_le_self _ _) hx) k (wrap64 (j + 1)) (by omega) (by unfold wrap64; omega) (by unfold wrap64; omega)]
    congr 1
    unfold wrap64; omega
theorem Top_eq {a c b : Int} {i : Nat} (h : Top (wd b) (tm a) (tm c) i) {k : Nat} (hk : 32 < k) : digit_Top.f k a c b = some ((i : Int) - 1) := by
  have ha := tm_lt a
  have hc := tm_lt c
  have hi := h.le (wd_bd b).1 ha hc
  unfold digit_Top.f
  rw [time_eq, time_eq]
  simp only [Option.bind_some]
  rw [bits_xor (tm a) (tm c) (by omega) (by omega)]
  rw [Top_l0 b i _ h.to_len (Nat.xor_lt_two_pow (by omega) (by omega)) k (-1) (by omega) (by omega) (by omega)]
  exact congrArg some (by omega)

theorem Floor_eq (t l b : Int) : digit_Floor.f t l b = some (flo t l b : Int) := by
  unfold digit_Floor.f flo
  rw [time_eq, shift_eq]
  simp only [Option.bind_some]
  rw [if_pos (by omega)]
  congr 1
  have ht := tm_lt t
  rw [shr_nat (tm t) (sh l b) (by omega)]
  have hle : tm t / 2 ^ sh l b * 2 ^ sh l b ≤ tm t := Nat.div_mul_le_self _ _
  unfold shl
  show wrap64 (IntKind.u64.wrap (((tm t / 2 ^ sh l b : Nat) : Int) * 2 ^ min (sh l b) 64)) = _
  have hs : ((tm t / 2 ^ sh l b : Nat) : Int) * 2 ^ min (sh l b) 64 = ((tm t / 2 ^ sh l b * 2 ^ sh l b : Nat) : Int) := by
    by_cases h : sh l b ≤ 64
    · rw [Nat.min_eq_left h]; simp
    · rw [Nat.div_eq_of_lt (Nat.lt_of_lt_of_le (show tm t < 2 ^ 64 by omega) (Nat.pow_le_pow_right (by decide) (by omega)))]; simp
  rw [hs, IntKind.wrap_u64]
  unfold wrap64; omega

theorem Place_eq {n d l b : Int} {i : Nat} (h : Top (wd b) (tm n) (tm d) i) {k : Nat} (hk : 32 < k) :
    digit_Place.f k n d l b = if tm d ≤ tm n then some (-1, -1) else if (i : Int) - 1 < l then some ((i : Int) - 1, (dig d ((i : Int) - 1) b : Int)) else some (l, 0) := by
  unfold digit_Place.f
  rw [time_eq, time_eq]
  simp only [Option.bind_some]
  by_cases h1 : tm d ≤ tm n
  · rw [if_pos (by omega), if_pos h1]
  · rw [if_neg (by omega), if_neg h1, Top_eq h hk]
    simp only [Option.bind_some]
    by_cases h2 : (i : Int) - 1 < l
    · rw [if_pos h2, if_pos h2, Digit_eq]; rfl
    · rw [if_neg h2, if_neg h2]
theorem speaks_eq {k : Nat} (hk : 32 < k) : knelllaw05_speaks.f k = some true := by
  have ht : Top (wd 2) (tm 27) (tm 30) 2 := Top.of (by decide) (fun _ => by decide)
  unfold knelllaw05_speaks.f
  rw [Place_eq ht hk, Digit_eq, Digit_eq, Top_eq ht hk]
  rfl

theorem DigitOrders : knelllaw05_DigitOrders.Pure := by
  intro a0 a1 a2 w0 w1 w2
  have b0 := w0; have b1 := w1; have b2 := w2
  clear w0 w1 w2
  simp only [Lit.wf, Bool.and_eq_true, IntKind.min, IntKind.max, IntKind.signed, IntKind.bits] at b0 b1 b2
  simp at b0 b1 b2
  obtain ⟨A, rfl⟩ := Int.eq_ofNat_of_zero_le b0.1
  obtain ⟨B, rfl⟩ := Int.eq_ofNat_of_zero_le b1.1
  obtain ⟨C, rfl⟩ := Int.eq_ofNat_of_zero_le b2.1
  obtain ⟨K, hK⟩ : ∃ K : Nat, 33 ≤ K := ⟨33, Nat.le_refl _⟩
  refine ⟨K + 1, ?_⟩
  unfold knelllaw05_DigitOrders.f
  rw [speaks_eq (k := K + 1) (by omega)]
  have e1 : wrap64 (A : Int) = A := IntWalk.wrap64_in _ (by omega)
  have e2 : wrap64 (B : Int) = B := IntWalk.wrap64_in _ (by omega)
  have e3 : wrap64 (C : Int) = C := IntWalk.wrap64_in _ (by omega)
  have e4 : ((C : Int)).tmod 6 = ((C % 6 : Nat) : Int) := by rw [Int.tmod_eq_emod_of_nonneg (by omega)]; simp
  have e5 : wrap64 (1 + ((C % 6 : Nat) : Int)) = ((1 + C % 6 : Nat) : Int) := IntWalk.wrap64_in _ (by omega)
  simp only [Option.bind_some, if_true, e1, e2, e3, e4, e5]
  clear e1 e2 e3 e4 e5
  have hw : wd ((1 + C % 6 : Nat) : Int) = 1 + C % 6 := wd_nat (1 + C % 6) (by omega) (by omega)
  have hA : tm (A : Int) = A := tm_nat A (by omega)
  have hB : tm (B : Int) = B := tm_nat B (by omega)
  generalize hg : ((1 + C % 6 : Nat) : Int) = b at hw ⊢
  obtain ⟨i, hi⟩ := Num.Top.exists (w := wd b) (wd_bd b).1 (tm A) (tm B)
  have hi' := hi.le (wd_bd b).1 (tm_lt _) (tm_lt _)
  rw [Top_eq hi (k := K + 1) (by omega), Top_eq hi.symm (k := K + 1) (by omega)]
  simp only [Option.bind_some]
  have hz := hi.zero_iff
  rw [hA, hB] at hz
  by_cases hab : A = B
  · rw [if_pos (by omega)]
    have : i = 0 := hz.2 hab
    subst this
    simp
  · rw [if_neg (by omega)]
    obtain ⟨j, rfl⟩ : ∃ j, i = j + 1 := ⟨i - 1, by omega⟩
    have ek : ((j + 1 : Nat) : Int) - 1 = (j : Int) := by omega
    rw [ek]
    rw [if_neg (by omega)]
    simp only [if_true]
    rw [Floor_eq, Option.bind_some, Floor_eq, Option.bind_some]
    have e6 : wrap64 ((j : Int) + 1) = (j : Int) + 1 := IntWalk.wrap64_in _ (by omega)
    rw [e6, show (j : Int) + 1 = ((j + 1 : Nat) : Int) from rfl]
    clear e6
    have hs : sh ((j + 1 : Nat) : Int) b = wd b * (j + 1) := by unfold sh; rw [lv_nat (j + 1) (by omega), Nat.mul_comm]
    have hs' : sh (j : Int) b = wd b * j := by unfold sh; rw [lv_nat j (by omega), Nat.mul_comm]
    have hf : flo (A : Int) ((j + 1 : Nat) : Int) b = flo (B : Int) ((j + 1 : Nat) : Int) b := by
      unfold flo; rw [hs, hi.eq]
    rw [hf]
    rw [bne_self_eq_false, knelllaw05_DigitOrders.j0, if_neg Bool.false_ne_true, Digit_eq, Option.bind_some, Digit_eq, Option.bind_some]
    have ho := hi.order
    rw [hA, hB] at ho
    unfold dig
    rw [hs', hA, hB]
    generalize A / 2 ^ (wd b * j) % 2 ^ wd b = P at ho ⊢
    generalize B / 2 ^ (wd b * j) % 2 ^ wd b = Q at ho ⊢
    clear hf hs hs' hi hz
    refine congrArg some ?_
    rw [beq_iff_eq, decide_eq_decide]
    omega

end Go.Proofs.Ytdmjokkjhbdnnaa.Pure
