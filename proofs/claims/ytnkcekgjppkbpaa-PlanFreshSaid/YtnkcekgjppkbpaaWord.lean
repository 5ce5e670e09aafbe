/- Package word, walked: parts of words, and the words of states, homes, keys, heads and connections. -/
import Derived.Test.YtnkcekgjppkbpaaBase
import Derived.Test.YtnkcekgjppkbpaaWordN
namespace Go.Proofs.Ytnkcekgjppkbpaa.Wd
open Go.RowKit Go.Proofs.Ytnkcekgjppkbpaa Go.Proofs.Ytnkcekgjppkbpaa.Num
set_option linter.unusedVariables false
set_option linter.unusedSimpArgs false

theorem ret_of {k : IntKind} {a b : Int} (h : a = b) : Ending.returned (.int k a) = .returned (.int k b) := by rw [h]
theorem retb_of {a b : Bool} (h : a = b) : Ending.returned (.bool a) = .returned (.bool b) := by rw [h]
theorem ret2_of {k k' : IntKind} {a b c d : Int} (h : a = b) (h' : c = d) : Ending.returned (.tuple #[.int k a, .int k' c]) = .returned (.tuple #[.int k b, .int k' d]) := by rw [h, h']

/-- There is such a part. -/
def Fits (s n : Int) : Prop := 0 ≤ s ∧ 1 ≤ n ∧ n ≤ 64 ∧ s + n ≤ 64


/-- So many ones. -/
def ones (n : Nat) : Nat := 2 ^ n - 1
theorem ones_lt (n : Nat) (h : n ≤ 64) : ones n < 2 ^ 64 := by have := pow_le64 h; have := Nat.two_pow_pos n; unfold ones; omega

set_option maxHeartbeats 400000 in
theorem mask_c (n : Int) (h0 : 0 ≤ n) (h1 : n ≤ 64) (w : World) : Calls Try.prog 89 #[.int .i64 n] w fun e w' => e = .returned (.int .u64 (ones n.toNat)) ∧ w = w' := by
  obtain ⟨m, rfl⟩ := Int.eq_ofNat_of_zero_le h0
  have hm := Lib.hid (mask_int m (by omega))
  have e : Hid ((64 - (m : Int)).toNat = 64 - m) := by show _ = _; omega
  go_enter Try.func89, Try.ntmps89
  go_wp2
  go_ret
  exact ⟨ret_of (by first | exact hm.out | (rw [e.out]; exact hm.out)), rfl⟩

theorem shr_int (x s : Nat) (hs : s ≤ 64) : (x : Int) / 2 ^ s = ((x / 2 ^ s : Nat) : Int) := by simp
theorem get_int (w s n : Nat) (hw : w < 2 ^ 64) (hn : n ≤ 64) : bits .and .u64 ((w : Int) / 2 ^ s) (ones n : Int) = (getN w s n : Int) := by
  rw [show (w : Int) / 2 ^ s = ((w / 2 ^ s : Nat) : Int) by simp, bits_and _ _ (Nat.lt_of_le_of_lt (Nat.div_le_self _ _) hw) (ones_lt n hn)]
  unfold ones getN
  rw [Nat.and_two_pow_sub_one_eq_mod]


theorem put_int (w s n v : Nat) (hw : w < 2 ^ 64) (hsn : s + n ≤ 64) (hv : v < 2 ^ n) :
    bits .or .u64 (bits .andNot .u64 (w : Int) (IntKind.u64.wrap ((ones n : Int) * 2 ^ s))) (IntKind.u64.wrap ((v : Int) * 2 ^ s)) = (putN w s n v : Int) := by
  have h2 : 2 ^ (s + n) ≤ 2 ^ 64 := Nat.pow_le_pow_right (by decide) hsn
  rw [Nat.pow_add, Nat.mul_comm] at h2
  have h1 : v * 2 ^ s < 2 ^ n * 2 ^ s := Nat.mul_lt_mul_of_pos_right hv (Nat.two_pow_pos s)
  have h3 : ones n * 2 ^ s < 2 ^ n * 2 ^ s := Nat.mul_lt_mul_of_pos_right (Nat.sub_lt (Nat.two_pow_pos n) (by decide)) (Nat.two_pow_pos s)
  have e1 : IntKind.u64.wrap ((v : Int) * 2 ^ s) = ((v * 2 ^ s : Nat) : Int) := by
    rw [show (v : Int) * 2 ^ s = ((v * 2 ^ s : Nat) : Int) by simp, IntKind.wrap_u64]
    omega
  have e2 : IntKind.u64.wrap ((ones n : Int) * 2 ^ s) = ((ones n * 2 ^ s : Nat) : Int) := by
    rw [show (ones n : Int) * 2 ^ s = ((ones n * 2 ^ s : Nat) : Int) by simp, IntKind.wrap_u64]
    omega
  rw [e1, e2, bits_andNot _ _ hw (by omega), bits_or _ _ (Nat.lt_of_le_of_lt Nat.and_le_left hw) (by omega)]
  unfold ones
  rw [put_bits w s n v hw hsn hv]
theorem miss_int (v n : Nat) (hv : v < 2 ^ 64) (hn : n ≤ 64) (h : v < 2 ^ n) : (bits .andNot .u64 (v : Int) (ones n : Int) != 0) = false := by
  rw [bits_andNot _ _ hv (ones_lt n hn)]
  unfold ones
  rw [(andNot_zero_iff v n hv hn).2 h]
  rfl
theorem hit_int (v n : Nat) (hv : v < 2 ^ 64) (hn : n ≤ 64) (h : ¬ v < 2 ^ n) : (bits .andNot .u64 (v : Int) (ones n : Int) != 0) = true := by
  rw [bits_andNot _ _ hv (ones_lt n hn), bne_iff_ne]
  unfold ones
  intro e
  exact h ((andNot_zero_iff v n hv hn).1 (by omega))



/-- What pack tells: the word, the error. -/
def packed (ps : List (Nat × Int)) : Nat × Int := match laid ps 64 with | some x => (x, 0) | none => (0, 2)
theorem packed_some {ps : List (Nat × Int)} {x : Nat} (h : laid ps 64 = some x) : packed ps = (x, 0) := by unfold packed; rw [h]
theorem packed_none {ps : List (Nat × Int)} (h : laid ps 64 = none) : packed ps = (0, 2) := by unfold packed; rw [h]

/-- What pack's loop has gathered ahead of what is left. -/
structure Way (ps rest : List (Nat × Int)) (sh acc : Nat) : Prop where
  low : acc % 2 ^ sh = 0
  small : acc < 2 ^ 64
  le : sh ≤ 64
  room : (rest.map (·.1)).sum ≤ sh
  same : (laid rest sh).map (acc + ·) = laid ps 64
theorem Way.start (ps : List (Nat × Int)) (h : (ps.map (·.1)).sum ≤ 64) : Way ps ps 64 0 :=
  ⟨by simp, by decide, Nat.le_refl _, h, by cases laid ps 64 <;> simp⟩
theorem Way.done {ps : List (Nat × Int)} {sh acc : Nat} (h : Way ps [] sh acc) : laid ps 64 = some acc := by
  have := h.same; simpa [laid] using this.symm
theorem Way.fail {ps rest : List (Nat × Int)} {n : Nat} {x : Int} {sh acc : Nat} (h : Way ps ((n, x) :: rest) sh acc) (hx : ¬ (0 ≤ x ∧ x < 2 ^ n)) : laid ps 64 = none := by
  have := h.same; rw [laid, if_neg hx] at this; simpa using this.symm
theorem Way.step {ps rest : List (Nat × Int)} {n : Nat} {x : Nat} {sh acc : Nat} (h : Way ps ((n, (x : Int)) :: rest) sh acc) (hx : x < 2 ^ n) :
    n ≤ sh ∧ acc ||| x * 2 ^ (sh - n) = acc + x * 2 ^ (sh - n) ∧ x * 2 ^ (sh - n) < 2 ^ 64 ∧ Way ps rest (sh - n) (acc + x * 2 ^ (sh - n)) := by
  have hr := h.room
  simp only [List.map_cons, List.sum_cons] at hr
  have hn : n ≤ sh := by omega
  have hle := h.le
  have hlt := acc_lt h.low h.small hx hn h.le
  refine ⟨hn, or_add h.low hx hn, Nat.lt_of_le_of_lt (Nat.le_add_left _ _) hlt, acc_mod h.low hn, hlt, by omega, by omega, ?_⟩
  have hs := h.same
  rw [laid, if_pos ⟨by omega, by exact_mod_cast hx⟩] at hs
  rw [← hs]
  cases laid rest (sh - n) with
  | none => rfl
  | some y => simp [Int.toNat_natCast]; omega

theorem shl_u64 (x s : Nat) (h : x * 2 ^ s < 2 ^ 64) : IntKind.u64.wrap ((x : Int) * 2 ^ s) = ((x * 2 ^ s : Nat) : Int) := by
  rw [show (x : Int) * 2 ^ s = ((x * 2 ^ s : Nat) : Int) by simp, IntKind.wrap_u64]
  omega

set_option maxHeartbeats 1000000 in
theorem pack_c (ps : List (Nat × Int)) (b1 b2 : Nat) (h8 : ps.length ≤ 8) (hw : ∀ p ∈ ps, 1 ≤ p.1 ∧ p.1 ≤ 64) (hx : ∀ p ∈ ps, -9223372036854775808 ≤ p.2 ∧ p.2 ≤ 9223372036854775807) (hs : (ps.map (·.1)).sum ≤ 64) (w : World)
    (hc1 : ∀ k (h : k < ps.length), w.cell? ⟨b1, k, none⟩ = some (.int .i64 (ps[k].1 : Int))) (hc2 : ∀ k (h : k < ps.length), w.cell? ⟨b2, k, none⟩ = some (.int .i64 ps[k].2)) :
    Calls Try.prog 88 #[.slice (some ⟨b1, 0, none⟩) ps.length ps.length, .slice (some ⟨b2, 0, none⟩) ps.length ps.length] w fun e w' =>
      e = .returned (.tuple #[.int .u64 ((packed ps).1 : Int), .int .i64 (packed ps).2]) ∧ w = w' := by
  have HC1 := Lib.hid hc1
  have HC2 := Lib.hid hc2
  have HW := Lib.hid hw
  have HX := Lib.hid hx
  have hst := Lib.hid (Way.start ps hs)
  clear hc1 hc2 hw hx hs
  obtain ⟨N, hN⟩ : ∃ N, N = ps.length := ⟨_, rfl⟩
  rw [← hN] at h8 ⊢
  have HN := Lib.hid hN
  clear hN
  go_enter Try.func88, Try.ntmps88
  go_wp2
  go_loop [6, 7, 12] (fun a s i => ∃ (k sh acc : Nat), k ≤ N ∧ sh ≤ 64 ∧ i = .int .i64 k ∧ s = .int .i64 sh ∧ a = .int .u64 acc ∧ Hid (Way ps (ps.drop k) sh acc)) (fun _ _ i => (N - intOf i).toNat)
  case atStart => exact ⟨0, 64, 0, by omega, by omega, rfl, rfl, rfl, hst⟩
  case round =>
    obtain ⟨k, sh, acc, hk, hsh, rfl, rfl, rfl, HWay⟩ := hrel
    by_cases hkN : k < N
    · have hkl : k < ps.length := by have := HN.out; omega
      have c1 := HC1.out k hkl
      have c2 := HC2.out k hkl
      have hw1 := HW.out ps[k] (List.getElem_mem hkl)
      have hx1 := HX.out ps[k] (List.getElem_mem hkl)
      have hway := HWay.out
      rw [List.drop_eq_getElem_cons hkl] at hway
      obtain ⟨p, hp⟩ : ∃ p, p = ps[k] := ⟨_, rfl⟩
      rw [← hp] at c1 c2 hw1 hx1 hway
      clear hp HWay
      obtain ⟨n, x⟩ := p
      simp only at c1 c2 hw1 hx1
      have hm : ∀ w : World, Calls Try.prog 89 #[.int .i64 (n : Int)] w fun e w' => e = .returned (.int .u64 (ones n)) ∧ w = w' := fun w => mask_c n (by omega) (by omega) w
      have HM := Lib.hid hm
      clear hm
      have hroom := hway.room
      simp only [List.map_cons, List.sum_cons] at hroom
      have hnsh : n ≤ sh := by omega
      clear hroom
      have hk0 : (k : Int) < (N : Int) := by omega
      by_cases hneg : x < 0
      · have hr := Lib.hid (packed_none (hway.fail (fun h => by omega)))
        clear hway
        go_wp2
        go_ret2
        exact ⟨ret2_of (by rw [hr.out]; rfl) (by rw [hr.out]), rfl⟩
      · obtain ⟨X, rfl⟩ := Int.eq_ofNat_of_zero_le (show 0 ≤ x by omega)
        by_cases hfit : X < 2 ^ n
        · have ht := miss_int X n (by omega) (by omega) hfit
          obtain ⟨_, h2, h3, h4⟩ := hway.step hfit
          have hor : Hid (bits .or .u64 (acc : Int) (IntKind.u64.wrap ((X : Int) * 2 ^ (sh - n))) = ((acc + X * 2 ^ (sh - n) : Nat) : Int)) := by
            show _ = _
            rw [shl_u64 _ _ h3, bits_or _ _ hway.small h3, h2]
          have HW4 := Lib.hid h4
          clear hfit h2 h3 h4 hway
          go_wp2_with (first | (go_at_call 89; refine (HM.out _).mono ?_; rintro e w' ⟨rfl, rfl⟩))
          go_round
          case rel => exact ⟨k + 1, sh - n, _, by omega, by omega, by go_num, by go_num, by rw [← hor.out], HW4⟩
          case measure => simp [intOf]; omega
        · have ht := hit_int X n (by omega) (by omega) hfit
          have hr := Lib.hid (packed_none (hway.fail (fun h => hfit (by exact_mod_cast h.2))))
          clear hway hfit
          go_wp2_with (first | (go_at_call 89; refine (HM.out _).mono ?_; rintro e w' ⟨rfl, rfl⟩))
          go_ret2
          exact ⟨ret2_of (by rw [hr.out]; rfl) (by rw [hr.out]), rfl⟩
    · obtain rfl : k = N := by omega
      have hway := HWay.out
      rw [List.drop_of_length_le (by have := HN.out; omega)] at hway
      have hr := Lib.hid (packed_some hway.done)
      clear hway
      go_wp2
      go_ret2
      exact ⟨ret2_of (by rw [hr.out]) (by rw [hr.out]), rfl⟩

end Go.Proofs.Ytnkcekgjppkbpaa.Wd
