/- The plain part of DigitStays: over numbers alone, no program in sight. -/
import Derived.Test.YtdmjokkjhbdnnaaPDigitStaysx2
import Derived.Test.YtdmjokkjhbdnnaaNum
namespace Go.Proofs.Ytdmjokkjhbdnnaa.Pure
open Go.RowKit Go.Proofs.Ytdmjokkjhbdnnaa.PDigitStays Go.Proofs.YtdmjokkjhbdnnaaW.PrintWords Go.Proofs.YtdmjokkjhbdnnaaW.PrintLast Go.Proofs.YtdmjokkjhbdnnaaW.PrintMore
open Go Go.Proofs.Ytdmjokkjhbdnnaa.Num

theorem time_eq (t : Int) : digit_time.f t = some (tm t : Int) := by
  unfold digit_time.f tm mn mx
  congr 1
  by_cases h1 : t < 0
  · rw [if_pos h1, if_neg (by omega), if_pos h1]; rfl
  · rw [if_neg h1, if_neg h1]
    by_cases h2 : 4294967295 < t
    · rw [if_pos h2, if_pos h2]; rfl
    · rw [if_neg h2, if_neg h2]; omega
theorem width_eq (b : Int) : digit_width.f b = some (wd b : Int) := by
  unfold digit_width.f wd mn mx
  congr 1
  by_cases h1 : b < 1
  · rw [if_pos h1, if_neg (by omega), if_pos h1]; rfl
  · rw [if_neg h1, if_neg h1]
    by_cases h2 : 6 < b
    · rw [if_pos h2, if_pos h2]; rfl
    · rw [if_neg h2, if_neg h2]; omega
theorem shift_eq (l b : Int) : digit_shift.f l b = some (sh l b : Int) := by
  unfold digit_shift.f
  rw [width_eq]
  simp only [Option.bind_some]
  have hm : mn (mx l 0) 64 = (lv l : Int) := by
    unfold lv mn mx
    by_cases h1 : l < 0
    · rw [if_pos h1, if_neg (by omega), if_pos h1]; rfl
    · rw [if_neg h1, if_neg h1]
      by_cases h2 : 64 < l
      · rw [if_pos h2, if_pos h2]; rfl
      · rw [if_neg h2, if_neg h2]; omega
  have hb := sh_bd l b
  unfold sh at hb ⊢
  have hc : (lv l : Int) * (wd b : Int) = ((lv l * wd b : Nat) : Int) := by simp
  rw [hm, hc]
  refine congrArg some ?_
  unfold wrap64; omega
theorem shr_nat (x s : Nat) (hx : x < 2 ^ 64) : shr .u64 (x : Int) (s : Int) = ((x / 2 ^ s : Nat) : Int) := by
  unfold shr
  show (x : Int) / 2 ^ min s 64 = _
  rw [← div_far hx]
  simp
theorem Digit_eq (t l b : Int) : digit_Digit.f t l b = some (dig t l b : Int) := by
  unfold digit_Digit.f dig
  rw [time_eq, shift_eq, width_eq]
  simp only [Option.bind_some]
  rw [if_pos (by omega), if_pos (by omega)]
  congr 1
  have ht := tm_lt t
  have hw := wd_bd b
  rw [shr_nat (tm t) (sh l b) (by omega)]
  have h1 : IntKind.u64.wrap ((shl .u64 1 (wd b : Int)) - 1) = ((2 ^ wd b - 1 : Nat) : Int) := by
    rcases hw with ⟨h1, h2⟩
    generalize wd b = n at h1 h2 ⊢
    have : n = 1 ∨ n = 2 ∨ n = 3 ∨ n = 4 ∨ n = 5 ∨ n = 6 := by omega
    rcases this with rfl | rfl | rfl | rfl | rfl | rfl <;> rfl
  rw [h1]
  have hq : tm t / 2 ^ sh l b < 4294967296 := Nat.lt_of_le_of_lt (Nat.div_le_self _ _) ht
  have hp : 2 ^ wd b ≤ 64 := Nat.le_trans (Nat.pow_le_pow_right (by decide) hw.2) (by decide)
  rw [bits_and (tm t / 2 ^ sh l b) (2 ^ wd b - 1) (by omega) (by omega), Nat.and_two_pow_sub_one_eq_mod]
  have hm : tm t / 2 ^ sh l b % 2 ^ wd b ≤ tm t / 2 ^ sh l b := Nat.mod_le _ _
  unfold wrap64; omega
theorem Top_l0 (b : Int) : ∀ (i x : Nat), Len (wd b) x i → x < 2 ^ 64 → ∀ (k : Nat) (j : Int), i < k → -1 ≤ j → j + i < 4294967296 → digit_Top.l0 k b j x = some (j + i) := by
  intro i
  induction i with
  | zero =>
    intro x h hx k j hk h1 h2
    obtain ⟨k, rfl⟩ : ∃ m, k = m + 1 := ⟨k - 1, by omega⟩
    have hx0 : x = 0 := by simpa using h.none
    subst hx0
    simp [digit_Top.l0]
  | succ i ih =>
    intro x h hx k j hk h1 h2
    obtain ⟨k, rfl⟩ : ∃ m, k = m + 1 := ⟨k - 1, by omega⟩
    have hx0 : x ≠ 0 := by have := h.some 0 (by omega); simpa using this
    have hl : Len (wd b) (x / 2 ^ wd b) i := by
      obtain ⟨i', hi'⟩ := Len.exists (wd_bd b).1 (x / 2 ^ wd b)
      have := (hi'.succ hx0).unique h
      obtain rfl : i' = i := by omega
      exact hi'
    simp only [digit_Top.l0]
    rw [if_neg (by omega), width_eq]
    simp only [Option.bind_some]
    rw [if_pos (by omega), shr_nat _ _ hx, ih _ hl (Nat.lt_of_le_of_lt (Nat.div_le_self _ _) hx) k (wrap64 (j + 1)) (by omega) (by unfold wrap64; omega) (by unfold wrap64; omega)]
    congr 1
    unfold wrap64; omega
theorem Top_eq {a c b : Int} {i : Nat} (h : Top (wd b) (tm a) (tm c) i) {k : Nat} (hk : 32 < k) : digit_Top.f k a c b = some ((i : Int) - 1) := by
  have ha := tm_lt a
  have hc := tm_lt c
  have hi := h.le (wd_bd b).1 ha hc
  unfold digit_Top.f
  rw [time_eq, time_eq]
  simp only [Option.bind_some]
  rw [bits_xor (tm a) (tm c) (by omega) (by omega)]
  rw [Top_l0 b i _ h.to_len (Nat.xor_lt_two_pow (by omega) (by omega)) k (-1) (by omega) (by omega) (by omega)]
  exact congrArg some (by omega)

theorem Place_eq {n d l b : Int} {i : Nat} (h : Top (wd b) (tm n) (tm d) i) {k : Nat} (hk : 32 < k) :
    digit_Place.f k n d l b = if tm d ≤ tm n then some (-1, -1) else if (i : Int) - 1 < l then some ((i : Int) - 1, (dig d ((i : Int) - 1) b : Int)) else some (l, 0) := by
  unfold digit_Place.f
  rw [time_eq, time_eq]
  simp only [Option.bind_some]
  by_cases h1 : tm d ≤ tm n
  · rw [if_pos (by omega), if_pos h1]
  · rw [if_neg (by omega), if_neg h1, Top_eq h hk]
    simp only [Option.bind_some]
    by_cases h2 : (i : Int) - 1 < l
    · rw [if_pos h2, if_pos h2, Digit_eq]; rfl
    · rw [if_neg h2, if_neg h2]
theorem speaks_eq {k : Nat} (hk : 32 < k) : knelllaw05_speaks.f k = some true := by
  have ht : Top (wd 2) (tm 27) (tm 30) 2 := Top.of (by decide) (fun _ => by decide)
  unfold knelllaw05_speaks.f
  rw [Place_eq ht hk, Digit_eq, Digit_eq, Top_eq ht hk]
  rfl

theorem Cross_eq {n m l b : Int} {i : Nat} (h : Top (wd b) (tm n) (tm m) i) {k : Nat} (hk : 33 < k) (hl : 0 ≤ l) :
    digit_Cross.f k n m l b = if tm m ≤ tm n then some (0, 0, false) else if (i : Int) - 1 < l then some (0, 0, false)
      else if l < (i : Int) - 1 then some (0, ((2 ^ wd b - 1 : Nat) : Int), true) else some ((dig n l b : Int) + 1, (dig m l b : Int), true) := by
  obtain ⟨k, rfl⟩ : ∃ m, k = m + 1 := ⟨k - 1, by omega⟩
  have hm : mx l 0 = l := by unfold mx; omega
  unfold digit_Cross.f
  rw [time_eq, time_eq, Top_eq h (k := k + 1) (by omega), hm]
  simp only [Option.bind_some, digit_Cross.j0]
  by_cases h1 : tm m ≤ tm n
  · rw [if_pos (by omega), if_pos h1]
    simp only [if_true]
  · rw [if_neg (by omega), if_neg h1]
    by_cases h2 : (i : Int) - 1 < l
    · rw [if_pos h2, if_pos (by simpa using h2)]
    · rw [if_neg h2, if_neg (by simpa using h2)]
      by_cases h3 : l < (i : Int) - 1
      · rw [if_pos h3, if_pos h3, width_eq]
        simp only [Option.bind_some]
        rw [if_pos (by omega)]
        rcases wd_bd b with ⟨h1, h2⟩
        generalize wd b = n at h1 h2 ⊢
        have : n = 1 ∨ n = 2 ∨ n = 3 ∨ n = 4 ∨ n = 5 ∨ n = 6 := by omega
        rcases this with rfl | rfl | rfl | rfl | rfl | rfl <;> (unfold wrap64; rfl)
      · rw [if_neg h3, if_neg h3, Digit_eq, Digit_eq]
        simp only [Option.bind_some]
        have hd : dig n l b < 2 ^ wd b := Nat.mod_lt _ (Nat.two_pow_pos _)
        have hp : 2 ^ wd b ≤ 64 := Nat.le_trans (Nat.pow_le_pow_right (by decide) (wd_bd b).2) (by decide)
        have : wrap64 ((dig n l b : Int) + 1) = (dig n l b : Int) + 1 := by unfold wrap64; omega
        rw [this]



theorem DigitStays : knelllaw05_DigitStays.Pure := by
  intro a0 a1 a2 a3 a4 w0 w1 w2 w3 w4
  have b0 := w0; have b1 := w1; have b2 := w2; have b3 := w3; have b4 := w4
  clear w0 w1 w2 w3 w4
  simp only [Lit.wf, Bool.and_eq_true, IntKind.min, IntKind.max, IntKind.signed, IntKind.bits] at b0 b1 b2 b3 b4
  simp at b0 b1 b2 b3 b4
  obtain ⟨n, rfl⟩ := Int.eq_ofNat_of_zero_le b0.1
  obtain ⟨m, rfl⟩ := Int.eq_ofNat_of_zero_le b1.1
  obtain ⟨d, rfl⟩ := Int.eq_ofNat_of_zero_le b2.1
  obtain ⟨C, rfl⟩ := Int.eq_ofNat_of_zero_le b3.1
  obtain ⟨D, rfl⟩ := Int.eq_ofNat_of_zero_le b4.1
  refine ⟨40, ?_⟩
  unfold knelllaw05_DigitStays.f
  rw [speaks_eq (k := 40) (by omega)]
  have e1 : wrap64 (n : Int) = n := by unfold wrap64; omega
  have e2 : wrap64 (m : Int) = m := by unfold wrap64; omega
  have e3 : wrap64 (d : Int) = d := by unfold wrap64; omega
  have e4 : wrap64 (C : Int) = C := by unfold wrap64; omega
  have e5 : wrap64 (D : Int) = D := by unfold wrap64; omega
  have e6 : ((C : Int)).tmod 8 = ((C % 8 : Nat) : Int) := by rw [Int.tmod_eq_emod_of_nonneg (by omega)]; simp
  have e7 : ((D : Int)).tmod 6 = ((D % 6 : Nat) : Int) := by rw [Int.tmod_eq_emod_of_nonneg (by omega)]; simp
  have e8 : wrap64 (1 + ((C % 8 : Nat) : Int)) = ((1 + C % 8 : Nat) : Int) := by unfold wrap64; omega
  have e9 : wrap64 (1 + ((D % 6 : Nat) : Int)) = ((1 + D % 6 : Nat) : Int) := by unfold wrap64; omega
  simp only [Option.bind_some, if_true, knelllaw05_DigitStays.j0, e1, e2, e3, e4, e5, e6, e7, e8, e9]
  clear e1 e2 e3 e4 e5 e6 e7 e8 e9
  by_cases hnm : m ≤ n
  · rw [if_pos (by omega)]
  · rw [if_neg (by omega)]
    by_cases hnd : d ≤ n
    · rw [if_pos (by simp; omega)]
    · rw [if_neg (by simp; omega)]
      have hw : wd ((1 + D % 6 : Nat) : Int) = 1 + D % 6 := wd_nat (1 + D % 6) (by omega) (by omega)
      have hN1 : 1 + C % 8 ≤ 8 := by omega
      generalize hg : ((1 + D % 6 : Nat) : Int) = b at hw ⊢
      generalize hN : 1 + C % 8 = N at hN1 ⊢
      have hn : tm (n : Int) = n := tm_nat n (by omega)
      have hm : tm (m : Int) = m := tm_nat m (by omega)
      have hd : tm (d : Int) = d := tm_nat d (by omega)
      obtain ⟨i, hi⟩ := Num.Top.exists (w := wd b) (wd_bd b).1 (tm n) (tm d)
      obtain ⟨j, hj⟩ := Num.Top.exists (w := wd b) (wd_bd b).1 (tm m) (tm d)
      obtain ⟨p, hp⟩ := Num.Top.exists (w := wd b) (wd_bd b).1 (tm n) (tm m)
      have hi32 := hi.le (wd_bd b).1 (tm_lt _) (tm_lt _)
      have hj32 := hj.le (wd_bd b).1 (tm_lt _) (tm_lt _)
      have hp32 := hp.le (wd_bd b).1 (tm_lt _) (tm_lt _)
      rw [Place_eq hi (k := 39) (by omega), Place_eq hj (k := 39) (by omega), Top_eq hp (k := 39) (by omega)]
      simp only [hn, hm, hd] at hi hj hp ⊢
      rw [if_neg hnd]
      have hi0 : i ≠ 0 := fun h => by have := hi.zero_iff.1 h; omega
      have hp0 : p ≠ 0 := fun h => by have := hp.zero_iff.1 h; omega
      obtain ⟨i, rfl⟩ : ∃ q, i = q + 1 := ⟨i - 1, by omega⟩
      obtain ⟨p, rfl⟩ : ∃ q, p = q + 1 := ⟨p - 1, by omega⟩
      have ei : ((i + 1 : Nat) : Int) - 1 = (i : Int) := by omega
      have ep : ((p + 1 : Nat) : Int) - 1 = (p : Int) := by omega
      simp only [ei, ep, Option.bind_some]
      -- where n and m agree from level i on, d stands as it stood
      have same : m / 2 ^ (wd b * i) = n / 2 ^ (wd b * i) → j = i + 1 ∧ ¬ d ≤ m := by
        intro h
        have ht : Num.Top (wd b) m d (i + 1) := Num.Top.of (by rw [← hi.eq]; exact eq_up h (by omega)) (fun _ => by
          show m / 2 ^ (wd b * i) ≠ d / 2 ^ (wd b * i)
          rw [h]; exact hi.ne i (by omega))
        refine ⟨hj.unique ht, fun hle => ?_⟩
        have h1 := Nat.div_le_div_right (c := 2 ^ (wd b * i)) hle
        have h2 := Nat.div_le_div_right (c := 2 ^ (wd b * i)) (show n ≤ d by omega)
        have h3 := hi.ne i (by omega)
        omega
      by_cases hiN : (i : Int) < (N : Int)
      · rw [if_pos hiN]
        simp only [Option.bind_some]
        by_cases hdm : d ≤ m
        · rw [if_pos hdm]
          simp only [Option.bind_some]
          rw [if_pos hiN, Cross_eq (k := 39) (l := (i : Int)) (show Num.Top (wd b) (tm (n : Int)) (tm (m : Int)) (p + 1) by rw [hn, hm]; exact hp) (by omega) (by omega), hn, hm, if_neg hnm, ep]
          by_cases hpi : (p : Int) < (i : Int)
          · exfalso
            exact (same (eq_up hp.eq.symm (by omega))).2 hdm
          · rw [if_neg hpi]
            have hdd : dig (d : Int) (i : Int) b < 2 ^ wd b := Nat.mod_lt _ (Nat.two_pow_pos _)
            by_cases hip : (i : Int) < (p : Int)
            · rw [if_pos hip]
              simp only [Option.bind_some, if_true]
              rw [if_pos (by omega), if_pos (by omega), if_pos (by omega)]
            · rw [if_neg hip]
              simp only [Option.bind_some, if_true]
              obtain rfl : i = p := by omega
              have o1 := hi.order.1 (by omega)
              have o2 : dig (d : Int) (i : Int) b ≤ dig (m : Int) (i : Int) b := by
                have hmd : m / 2 ^ (wd b * (i + 1)) = d / 2 ^ (wd b * (i + 1)) := by rw [← hi.eq, hp.eq]
                have s1 := split (wd b) m i
                have s2 := split (wd b) d i
                have h1 := Nat.div_le_div_right (c := 2 ^ (wd b * i)) hdm
                rw [hmd] at s1
                unfold dig sh
                rw [lv_nat i (by omega), hd, hm, Nat.mul_comm i]
                omega
              have o3 : dig (n : Int) (i : Int) b < dig (d : Int) (i : Int) b := by
                unfold dig sh
                rw [lv_nat i (by omega), hd, hn, Nat.mul_comm i]
                exact o1
              rw [if_pos (by omega), if_pos (by omega), if_pos (by omega)]
        · rw [if_neg hdm]
          by_cases hpi : (p : Int) < (i : Int)
          · obtain ⟨rfl, _⟩ := same (eq_up hp.eq.symm (by omega))
            rw [ei, if_pos hiN]
            simp only [Option.bind_some]
            rw [if_pos hiN, Cross_eq (k := 39) (l := (i : Int)) (show Num.Top (wd b) (tm (n : Int)) (tm (m : Int)) (p + 1) by rw [hn, hm]; exact hp) (by omega) (by omega), hn, hm, if_neg hnm, ep, if_pos hpi]
            simp
          · by_cases hip : (i : Int) < (p : Int)
            · exfalso
              have h1 : d / 2 ^ (wd b * p) = n / 2 ^ (wd b * p) := (eq_up hi.eq (by omega)).symm
              have h2 := hp.ne p (by omega)
              have h3 := Nat.div_le_div_right (c := 2 ^ (wd b * p)) (show n ≤ m by omega)
              have h4 := Nat.div_le_div_right (c := 2 ^ (wd b * p)) (show m ≤ d by omega)
              omega
            · obtain rfl : i = p := by omega
              have hmd : m / 2 ^ (wd b * (i + 1)) = d / 2 ^ (wd b * (i + 1)) := by rw [← hi.eq, hp.eq]
              have hji : j ≤ i + 1 := by
                rcases Nat.lt_or_ge (i + 1) j with h | h
                · exact absurd hmd (hj.ne _ h)
                · exact h
              have hj0 : j ≠ 0 := fun h => by have := hj.zero_iff.1 h; omega
              obtain ⟨j, rfl⟩ : ∃ q, j = q + 1 := ⟨j - 1, by omega⟩
              have ej : ((j + 1 : Nat) : Int) - 1 = (j : Int) := by omega
              rw [ej, if_pos (show (j : Int) < (N : Int) by omega)]
              simp only [Option.bind_some]
              rw [if_pos hiN, Cross_eq (k := 39) (l := (i : Int)) (show Num.Top (wd b) (tm (n : Int)) (tm (m : Int)) (i + 1) by rw [hn, hm]; exact hp) (by omega) (by omega), hn, hm, if_neg hnm, ep, if_neg hpi, if_neg hip]
              simp only [Option.bind_some, if_true]
              have o3 : dig (n : Int) (i : Int) b < dig (d : Int) (i : Int) b := by
                have o1 := hi.order.1 (by omega)
                unfold dig sh
                rw [lv_nat i (by omega), hd, hn, Nat.mul_comm i]
                exact o1
              rw [if_pos (show (dig (d : Int) (i : Int) b : Int) ≥ (dig (n : Int) (i : Int) b : Int) + 1 by omega)]
              by_cases hle : dig (d : Int) (i : Int) b ≤ dig (m : Int) (i : Int) b
              · rw [if_pos (by omega), if_neg (by omega), if_pos (by omega)]
                have : j ≠ i := by
                  rintro rfl
                  have o := hj.order.1 (by omega)
                  unfold dig sh at hle
                  rw [lv_nat j (by omega), hd, hm, Nat.mul_comm j] at hle
                  omega
                rw [if_pos (by omega)]
              · rw [if_neg (by omega)]
                obtain rfl : j = i := by
                  rcases Nat.lt_or_ge j i with h | h
                  · exfalso
                    have h1 : m / 2 ^ (wd b * i) = d / 2 ^ (wd b * i) := eq_up hj.eq (by omega)
                    apply hle
                    unfold dig sh
                    rw [lv_nat i (by omega), hd, hm, Nat.mul_comm i, h1]
                    exact Nat.le_refl _
                  · omega
                simp
      · rw [if_neg hiN]
        simp only [Option.bind_some]
        by_cases hdm : d ≤ m
        · rw [if_pos hdm]
          simp only [Option.bind_some]
          rw [if_neg (by omega)]
          by_cases hpN : (p : Int) ≥ (N : Int)
          · rw [if_pos hpN, if_pos (by omega)]
            simp
          · exfalso
            exact (same (eq_up hp.eq.symm (by omega))).2 hdm
        · rw [if_neg hdm]
          by_cases hpN : (p : Int) ≥ (N : Int)
          · by_cases hjN : (j : Int) - 1 < (N : Int)
            · rw [if_pos hjN]
              simp only [Option.bind_some]
              rw [if_neg (by omega), if_pos hpN, if_neg (by omega), if_pos (by omega), if_pos hjN]
            · rw [if_neg hjN]
              simp only [Option.bind_some]
              rw [if_neg (by omega), if_pos hpN, if_neg (by omega), if_pos (by omega), if_neg (by omega)]
              simp
          · obtain ⟨rfl, _⟩ := same (eq_up hp.eq.symm (by omega))
            rw [ei, if_neg hiN]
            simp only [Option.bind_some]
            rw [if_neg (by omega), if_neg hpN]
            simp

end Go.Proofs.Ytdmjokkjhbdnnaa.Pure
