/- Package knellref05, walked. -/
import Derived.Test.YtdmjokkjhbdnnaaDig
namespace Go.Proofs.Ytdmjokkjhbdnnaa.Ref5
open Go.RowKit Go.Proofs.Ytdmjokkjhbdnnaa Go.Proofs.Ytdmjokkjhbdnnaa.Num Go.Proofs.Ytdmjokkjhbdnnaa.Dig
set_option linter.unusedVariables false
set_option linter.unusedSimpArgs false

set_option maxHeartbeats 400000 in
theorem Time_c (t : Int) (w : World) : Calls Try.prog 53 #[.int .i64 t] w fun e w' => e = .returned (.int .i64 (tm t)) ∧ w = w' := by
  go_enter Try.func53, Try.ntmps53
  by_cases h1 : t < 0
  · have hr : Hid ((0 : Int) = tm t) := tm_lo t h1
    go_wp2; go_ret; exact ⟨ret_of hr.out, rfl⟩
  · by_cases h2 : 4294967295 < t
    · have hr : Hid ((4294967295 : Int) = tm t) := tm_if t (by rw [if_neg h1]; exact h2)
      go_wp2; go_ret; exact ⟨ret_of hr.out, rfl⟩
    · have hr : Hid (t = (tm t : Int)) := tm_mid t (by omega) (by rw [if_neg h1]; omega)
      go_wp2; go_ret; exact ⟨ret_of hr.out, rfl⟩

set_option maxHeartbeats 400000 in
theorem Size_c (b : Int) (w : World) : Calls Try.prog 48 #[.int .i64 b] w fun e w' => e = .returned (.int .i64 ((2 ^ wd b : Nat) : Int)) ∧ w = w' := by
  have hb := wd_bd b
  have hwd : Hid (wd b = if b < 1 then 1 else if 6 < b then 6 else b.toNat) := rfl
  go_enter Try.func48, Try.ntmps48
  go_wp2
  go_loop [3, 4] (fun n i => ∃ k : Nat, 1 ≤ k ∧ k ≤ wd b ∧ i = .int .i64 k ∧ n = .int .i64 ((2 ^ k : Nat) : Int)) (fun _ i => (6 - intOf i).toNat)
  case atStart => exact ⟨1, by omega, hb.1, rfl, rfl⟩
  case round =>
    obtain ⟨k, h1, hk, rfl, rfl⟩ := hrel
    by_cases hlt : k < wd b
    · have h2 : (k : Int) < b := by have := hwd.out; split at this <;> (try split at this) <;> omega
      have hp : 2 ^ k ≤ 64 := Nat.le_trans (Nat.pow_le_pow_right (by decide) (by omega : k ≤ 6)) (by decide)
      have h6 : k < 6 := by omega
      have e : Hid (((2 ^ (k + 1) : Nat) : Int) = ((2 ^ k : Nat) : Int) * 2) := by show ((2 ^ (k + 1) : Nat) : Int) = _; rw [Nat.pow_succ]; simp
      generalize 2 ^ k = p at hp e ⊢
      go_wp2
      go_round
      case rel => exact ⟨k + 1, by omega, by omega, by go_num, by rw [e.out]⟩
      case measure => simp [intOf]; omega
    · obtain rfl : k = wd b := by omega
      generalize hq : wd b = q at *
      have hq' := Lib.hid hq; clear hq
      by_cases h2 : (q : Int) < b
      · have h6 : ¬ (q : Int) < 6 := by have := hwd.out; split at this <;> (try split at this) <;> omega
        go_wp2
        go_ret
        exact ⟨ret_of (by rw [hq'.out]; try simp), rfl⟩
      · go_wp2
        go_ret
        exact ⟨ret_of (by rw [hq'.out]; try simp), rfl⟩

/-- The digit at a place. -/
def dg (t b : Int) (i : Nat) : Nat := tm t / 2 ^ (wd b * i) % 2 ^ wd b
/-- The row of digits, as far as they are written. -/
def upto (t b : Int) (k : Nat) : Array Value := ((List.range 40).map fun i => Value.int .i64 (if i < k then (dg t b i : Int) else 0)).toArray
theorem upto_size (t b : Int) (k : Nat) : (upto t b k).size = 40 := by simp [upto]
theorem upto_get (t b : Int) (k i : Nat) (h : i < 40) : (upto t b k)[i]? = some (.int .i64 (if i < k then (dg t b i : Int) else 0)) := by
  simp [upto, h]
theorem upto_zero (t b : Int) : upto t b 0 = ((List.range 40).map fun _ => Value.int .i64 0).toArray := by simp [upto]
theorem upto_succ (t b : Int) (k : Nat) (_h : k < 40) : (upto t b k).setIfInBounds k (.int .i64 (dg t b k)) = upto t b (k + 1) := by
  apply Array.ext_getElem?
  intro i
  by_cases hi : i < 40
  · rw [Array.getElem?_setIfInBounds, upto_get _ _ _ _ hi, upto_get _ _ _ _ hi]
    by_cases e : k = i
    · subst e; simp [upto_size, hi]
    · rw [if_neg e]
      by_cases h1 : i < k
      · rw [if_pos h1, if_pos (by omega)]
      · rw [if_neg h1, if_neg (by omega)]
  · rw [Array.getElem?_eq_none (by simp [upto_size]; omega), Array.getElem?_eq_none (by simp [upto_size]; omega)]

theorem quo_in (q p : Nat) (hq : q < 4294967296) : wrap64 ((q : Int) / (p : Int)) = ((q / p : Nat) : Int) := by
  have h := Nat.div_le_self q p
  rw [show (q : Int) / (p : Int) = ((q / p : Nat) : Int) by simp]
  generalize q / p = d at h ⊢
  exact IntWalk.wrap64_in _ (by omega)
def Z40 : Array Value := ((List.range 40).map fun _ => Value.int .i64 0).toArray
theorem Z40_one : Z40.all (·.oneCell') = true := by kernel_rfl
theorem Z40_size : Z40.size = 40 := by kernel_rfl
theorem upto_one (t b : Int) (k : Nat) : (upto t b k).all (·.oneCell') = true := by
  rw [Array.all_eq_true_iff_forall_mem]
  intro x hx
  simp only [upto, List.mem_toArray, List.mem_map] at hx
  obtain ⟨i, _, rfl⟩ := hx
  rfl

set_option maxHeartbeats 1000000 in
theorem Digits_c (t b : Int) (w : World) : Calls Try.prog 47 #[.int .i64 t, .int .i64 b] w fun e w' => e = .returned (.agg (upto t b 40)) ∧ Made w w' := by
  have hb := wd_bd b
  have ht := tm_lt t
  have hal : ∀ w : World, (Instr.alloc 72 true (.tuple #[])).run Try.prog w = .ok (.pointer (some ⟨w.heap.size, 0, none⟩)) (w.alloc (.cells Z40 72)) := fun w => by kernel_rfl
  have hbl : Try.prog.built 72 [] = some Z40 := by kernel_rfl
  have hsz : (Try.prog.info? 72).map (·.size) = some Z40.size := by kernel_rfl
  have hZ : upto t b 0 = Z40 := by simp [upto, Z40]
  have HAL := Lib.hid hal; have HBL := Lib.hid hbl; have HSZ := Lib.hid hsz; have HZ := Lib.hid hZ
  clear hal hbl hsz hZ
  go_enter Try.func47, Try.ntmps47
  go_wp2_with (first | (go_at_call 53; refine (Time_c _ _).mono ?_; rintro e w' ⟨rfl, rfl⟩) | (refine wpList_alloc_zero rfl 72 rfl Z40 HAL.out ?_) | (refine wpList_build_zero rfl 72 rfl Z40 HBL.out ?_) | (refine wpList_store_row rfl 72 (.tmp 5) (.tmp 8) rfl (w.heap.size + 1) Z40 (by simp [Act.eval, Act.put]) (by simp [Act.eval, Act.put]) 72 Z40 (heap_alloc2_new _ _ _) HSZ.out rfl Z40_one ?_))
  have hw0 : ((w.alloc (.cells Z40 72)).alloc (.cells Z40 72)).setRow (w.heap.size + 1) Z40 = (w.alloc (.cells Z40 72)).alloc (.cells Z40 72) := by
    have := World.setRow_alloc_new (w.alloc (.cells Z40 72)) Z40 Z40 72
    rwa [show (w.alloc (.cells Z40 72)).heap.size = w.heap.size + 1 by simp] at this
  rw [hw0]
  clear hw0
  have hp := Nat.le_trans (Nat.pow_le_pow_right (n := 2) (by decide) hb.2) (show 2 ^ 6 ≤ 64 by decide)
  have hp1 := Nat.two_pow_pos (wd b)
  go_loopw [6, 7] (fun n i wr => ∃ (k q : Nat), k ≤ 40 ∧ i = .int .i64 k ∧ n = .int .i64 q ∧ q < 4294967296 ∧ Hid (q = tm t / 2 ^ (wd b * k)) ∧ Below w.heap.size w wr ∧ w.heap.size + 1 < wr.heap.size ∧
      Hid (wr.heap[w.heap.size]? = some (.cells Z40 72 (0, 0))) ∧ Hid (wr.heap[w.heap.size + 1]? = some (.cells (upto t b k) 72 (0, 0))))
    (fun _ i _ => (40 - intOf i).toNat)
  case atStart =>
    refine ⟨0, tm t, by omega, rfl, rfl, ht, ?_, ((Below.refl _ w).alloc (Nat.le_refl _) _).alloc (by simp) _, by simp, heap_alloc2_old _ _ _, ?_⟩
    · show _ = _; simp
    · show _ = _; rw [HZ.out]; exact heap_alloc2_new _ _ _
  case round =>
    obtain ⟨k, q, hk, rfl, rfl, hq, HQ, hB, hsz, H1, H2⟩ := hrel
    by_cases hlt : k < 40
    · have hc : wr.cell? ⟨w.heap.size + 1, k, none⟩ = some (.int .i64 0) := by
        rw [cell_of_row _ _ _ _ _ _ H2.out, upto_get _ _ _ _ hlt]; simp
      have hf : wr.frozen? ⟨w.heap.size + 1, k, none⟩ = false := frozen_of_row _ _ _ _ _ H2.out
      obtain ⟨p, hpe⟩ : ∃ p, p = 2 ^ wd b := ⟨_, rfl⟩
      have HP := Lib.hid hpe
      rw [← hpe] at hp hp1
      have hsz' : ∀ w : World, Calls Try.prog 48 #[.int .i64 b] w fun e w' => e = .returned (.int .i64 (p : Int)) ∧ w = w' := fun w => by rw [hpe]; exact Size_c b w
      have HS := Lib.hid hsz'
      clear hsz' hpe
      go_wp2_with (first | (go_at_call 48; refine (HS.out _).mono ?_; rintro e w' ⟨rfl, rfl⟩))
      go_roundw
      case rel =>
        have hdiv : q / p = tm t / 2 ^ (wd b * (k + 1)) := by rw [HQ.out, HP.out, Nat.div_div_eq_div_mul, ← Nat.pow_add, Nat.mul_add, Nat.mul_one]
        refine ⟨k + 1, q / p, by omega, by go_num, by rw [quo_in q p hq], Nat.lt_of_le_of_lt (Nat.div_le_self _ _) hq, hdiv, hB.setCell (by simp) _, by simpa [World.setCell] using hsz, ?_, ?_⟩
        · show _ = _
          rw [heap_setCell_other _ _ _ _ (by simp)]; exact H1.out
        · show _ = _
          rw [heap_setCell_same _ _ _ _ _ _ H2.out, ← upto_succ t b k hlt]
          unfold dg
          rw [← HQ.out, ← HP.out]
          simp
      case measure => simp [intOf]; omega
    · obtain rfl : k = 40 := by omega
      go_wp2_with (first | (refine wpList_load_row rfl 72 (.tmp 5) rfl (w.heap.size + 1) (by simp [Act.eval, Act.put]) 72 (upto t b 40) (0, 0) _ H2.out Try.underlying72 rfl (by rw [HSZ.out, upto_size, Z40_size]) ?_) | (refine wpList_store_row rfl 72 (.tmp 4) (.tmp 25) rfl w.heap.size (upto t b 40) (by simp [Act.eval, Act.put]) (by simp [Act.eval, Act.put]) 72 Z40 H1.out (by rw [HSZ.out, upto_size, Z40_size]) (by rw [upto_size, Z40_size]) (upto_one _ _ _) ?_))
      exact bodyPost_ret (v := .agg (upto t b 40)) (results_cell_row rfl _ _ w.heap.size 72 (upto t b 40) (0, 0) _ (by simp [Act.put]) (heap_setRow_same _ _ _ _ _ _ H1.out) Try.underlying72 rfl (by rw [HSZ.out, upto_size, Z40_size])) rfl
        ⟨rfl, Go.Proofs.Ytdmjokkjhbdnnaa.Below.setRow hB (Nat.le_refl _) _⟩

theorem dg_dig (t l b : Int) (_h : lv l < 40) : dg t b (lv l) = dig t l b := by
  unfold dg dig sh; rw [Nat.mul_comm]
theorem dig_far (t l b : Int) (h : 39 < l) : dig t l b = 0 := by
  have h1 := tm_lt t
  have h2 := wd_bd b
  have h3 : 40 ≤ lv l := by unfold lv; split <;> (try split) <;> omega
  have h4 : 40 ≤ sh l b := Nat.le_trans h3 (Nat.le_mul_of_pos_right _ h2.1)
  unfold dig
  rw [Nat.div_eq_of_lt (Nat.lt_of_lt_of_le (show tm t < 2 ^ 40 by omega) (Nat.pow_le_pow_right (by decide) h4))]
  simp
theorem lv_neg (l : Int) (h : l < 0) : lv l = 0 := by unfold lv; rw [if_pos h]
theorem lv_pos (l : Int) (h : 0 ≤ l) (h' : l ≤ 39) : lv l = l.toNat := by unfold lv; rw [if_neg (by omega), if_neg (by omega)]
theorem index40 (cs : Array Value) (i : Int) (v : Value) (h0 : 0 ≤ i) (h1 : i < 40) (hv : cs[i.toNat]? = some v) (w : World) :
    (Instr.index 72 (.agg cs) (.int .i64 i)).run Try.prog w = .ok v w :=
  run_index_agg Try.underlying72 Try.underlying3 rfl (by kernel_rfl) cs .i64 i v h0 h1 hv w

set_option maxHeartbeats 1000000 in
theorem Digit_c (t l b : Int) (w : World) : Calls Try.prog 23 #[.int .i64 t, .int .i64 l, .int .i64 b] w fun e w' => e = .returned (.int .i64 (dig t l b)) ∧ Made w w' := by
  by_cases h0 : l < 0
  · have hi := fun w => index40 (upto t b 40) 0 (.int .i64 (dig t l b)) (by omega) (by omega) (by rw [upto_get _ _ _ _ (by decide), ← dg_dig t l b (by rw [lv_neg l h0]; decide), lv_neg l h0]; rfl) w
    go_enter Try.func23, Try.ntmps23
    go_wp2_with (first | (go_at_call 47; refine (Digits_c _ _ _).mono ?_; rintro e w1 ⟨rfl, hB⟩))
    go_ret
    exact ⟨rfl, hB⟩
  · by_cases h1 : 39 < l
    · have hr : Hid ((0 : Int) = (dig t l b : Int)) := by show (0 : Int) = _; rw [dig_far t l b h1]; rfl
      go_enter Try.func23, Try.ntmps23
      go_wp2
      go_ret
      exact ⟨ret_of hr.out, Made.refl _⟩
    · have hi := fun w => index40 (upto t b 40) l (.int .i64 (dig t l b)) (by omega) (by omega) (by rw [upto_get _ _ _ _ (by omega), ← dg_dig t l b (by rw [lv_pos l (by omega) (by omega)]; omega), lv_pos l (by omega) (by omega), if_pos (by omega)]) w
      go_enter Try.func23, Try.ntmps23
      go_wp2_with (first | (go_at_call 47; refine (Digits_c _ _ _).mono ?_; rintro e w1 ⟨rfl, hB⟩))
      go_ret
      exact ⟨rfl, hB⟩

theorem far_zero (t b : Int) : tm t / 2 ^ (wd b * 40) = 0 := by
  have h1 := tm_lt t
  have h2 := wd_bd b
  exact Nat.div_eq_of_lt (Nat.lt_of_lt_of_le (show tm t < 2 ^ 40 by omega) (Nat.pow_le_pow_right (by decide) (Nat.le_mul_of_pos_left 40 h2.1)))
theorem eq_step {a c b : Int} {k : Nat} (h : tm a / 2 ^ (wd b * (k + 1)) = tm c / 2 ^ (wd b * (k + 1))) (hd : dg a b k = dg c b k) : tm a / 2 ^ (wd b * k) = tm c / 2 ^ (wd b * k) := by
  have h1 := split (wd b) (tm a) k
  have h2 := split (wd b) (tm c) k
  unfold dg at hd
  rw [h, hd] at h1
  rw [h1, ← h2]
theorem top_at {a c b : Int} {k : Nat} (h : tm a / 2 ^ (wd b * (k + 1)) = tm c / 2 ^ (wd b * (k + 1))) (hd : dg a b k ≠ dg c b k) : topOf a c b = (k : Int) := by
  rw [topOf_eq (i := k + 1) (Num.Top.of h (fun _ e => hd (by unfold dg; rw [show k + 1 - 1 = k from rfl] at e; rw [e])))]
  omega
theorem top_none {a c b : Int} (h : tm a / 2 ^ (wd b * 0) = tm c / 2 ^ (wd b * 0)) : topOf a c b = -1 := by
  rw [topOf_eq (i := 0) (Num.Top.of h (fun h => absurd rfl h))]
  rfl
theorem dg_lt (t b : Int) (i : Nat) : dg t b i < 64 :=
  Nat.lt_of_lt_of_le (Nat.mod_lt _ (Nat.two_pow_pos _)) (Nat.le_trans (Nat.pow_le_pow_right (n := 2) (by decide) (wd_bd b).2) (show 2 ^ 6 ≤ 64 by decide))

theorem all40 : ∀ w : World, (Instr.alloc 72 true (.tuple #[])).run Try.prog w = .ok (.pointer (some ⟨w.heap.size, 0, none⟩)) (w.alloc (.cells Z40 72)) := fun w => by kernel_rfl
theorem siz40 : (Try.prog.info? 72).map (·.size) = some 40 := by kernel_rfl

set_option maxHeartbeats 1000000 in
theorem Top_c (a c b : Int) (w : World) : Calls Try.prog 25 #[.int .i64 a, .int .i64 c, .int .i64 b] w fun e w' => e = .returned (.int .i64 (topOf a c b)) ∧ Made w w' := by
  go_enter Try.func25, Try.ntmps25
  go_wp2_with fail
  refine (Digits_c a b w).mono ?_
  rintro e w1 ⟨rfl, hB1⟩
  have hs1 := hB1.size
  go_wp2_with (first | (refine wpList_alloc_zero rfl 72 rfl Z40 all40 ?_) | (refine wpList_store_row rfl 72 (.tmp 7) (.tmp 12) rfl w1.heap.size (upto a b 40) (by simp [Act.eval, Act.put]) (by simp [Act.eval, Act.put]) 72 Z40 (heap_alloc_new _ _) (by rw [siz40, upto_size]) (by rw [upto_size, Z40_size]) (upto_one _ _ _) ?_; rw [World.setRow_alloc_new]))
  refine (Digits_c c b _).mono ?_
  rintro e w2 ⟨rfl, hB2⟩
  have hs2 := hB2.size
  have H1 : Hid (w2.heap[w1.heap.size]? = some (.cells (upto a b 40) 72 (0, 0))) := (hB2.block w1.heap.size (by simp)).trans (heap_alloc_new _ _)
  have hs2' : w1.heap.size < w2.heap.size := by have := hs2; simp at this; omega
  go_wp2_with (first | (refine wpList_alloc_zero rfl 72 rfl Z40 all40 ?_) | (refine wpList_store_row rfl 72 (.tmp 8) (.tmp 15) rfl w2.heap.size (upto c b 40) (by simp [Act.eval, Act.put]) (by simp [Act.eval, Act.put]) 72 Z40 (heap_alloc_new _ _) (by rw [siz40, upto_size]) (by rw [upto_size, Z40_size]) (upto_one _ _ _) ?_; rw [World.setRow_alloc_new]))
  have H1' : Hid ((w2.alloc (.cells (upto c b 40) 72)).heap[w1.heap.size]? = some (.cells (upto a b 40) 72 (0, 0))) := (Below.heap_alloc _ _ _ hs2').trans H1.out
  have H2' : Hid ((w2.alloc (.cells (upto c b 40) 72)).heap[w2.heap.size]? = some (.cells (upto c b 40) 72 (0, 0))) := heap_alloc_new _ _
  have hM : Below w.heap.size w (w2.alloc (.cells (upto c b 40) 72)) := (Below.trans (Below.trans hB1 ((Below.refl w.heap.size w1).alloc hs1 (.cells (upto a b 40) 72))) (Below.mono hB2 (by simp; omega))).alloc (by omega) _
  generalize w2.alloc (.cells (upto c b 40) 72) = w3 at H1' H2' hM ⊢
  generalize w1.heap.size = B1 at *
  generalize w2.heap.size = B2 at *
  clear hB1 hB2 hs1 hs2 hs2' H1
  go_loopw [9] (fun i wr => ∃ k : Nat, k ≤ 40 ∧ i = .int .i64 ((k : Int) - 1) ∧ Hid (tm a / 2 ^ (wd b * k) = tm c / 2 ^ (wd b * k)) ∧ (∃ n, wr = w3.drewN n)) (fun i _ => (intOf i + 1).toNat)
  case atStart => exact ⟨40, by omega, rfl, (show _ = _ by rw [far_zero, far_zero]), 0, rfl⟩
  case round =>
    obtain ⟨k, hk, rfl, HE, n, rfl⟩ := hrel
    by_cases hk0 : k = 0
    · subst hk0
      go_wp2
      go_ret
      exact ⟨ret_of (top_none HE.out).symm, Go.Proofs.Ytdmjokkjhbdnnaa.below_drewN hM _⟩
    · obtain ⟨j, rfl⟩ : ∃ j, k = j + 1 := ⟨k - 1, by omega⟩
      have ej : ((j + 1 : Nat) : Int) - 1 = (j : Int) := by omega
      rw [ej]
      clear ej hk0
      have hj0 : 0 ≤ (j : Int) := by omega
      have hj1 : (j : Int) < 40 := by omega
      have c1 : w3.cell? ⟨B1, j, none⟩ = some (.int .i64 (dg a b j)) := by
        have := cell_of_row w3 B1 j _ _ _ H1'.out
        rw [upto_get _ _ _ _ (by omega), if_pos (by omega)] at this
        exact this
      have c2 : w3.cell? ⟨B2, j, none⟩ = some (.int .i64 (dg c b j)) := by
        have := cell_of_row w3 B2 j _ _ _ H2'.out
        rw [upto_get _ _ _ _ (by omega), if_pos (by omega)] at this
        exact this
      go_wp2
      go_quiet (fail)
      by_cases hd : dg a b j = dg c b j
      · have hne : ((dg a b j : Int) != (dg c b j : Int)) = false := by rw [hd]; simp
        have HD := Lib.hid hd
        clear hd
        go_wp2
        go_roundw
        case rel => exact ⟨j, by omega, rfl, eq_step HE.out HD.out, _, rfl⟩
        case measure => simp [intOf]
      · have hne : ((dg a b j : Int) != (dg c b j : Int)) = true := by rw [bne_iff_ne]; omega
        go_wp2
        go_ret
        exact ⟨ret_of (top_at HE.out hd).symm, Go.Proofs.Ytdmjokkjhbdnnaa.below_drewN (Go.Proofs.Ytdmjokkjhbdnnaa.below_drewN hM _) _⟩

/-- What Floor's loop has gathered behind place k. -/
def fl (t b : Int) (L k : Nat) : Nat := tm t / 2 ^ (wd b * max k L) * 2 ^ (wd b * (max k L - k))
theorem fl_start (t b : Int) (L : Nat) : fl t b L 40 = 0 := by
  have h1 := tm_lt t
  have h2 := wd_bd b
  have h3 : 40 ≤ wd b * max 40 L := Nat.le_trans (show 40 ≤ max 40 L by omega) (Nat.le_mul_of_pos_left _ h2.1)
  unfold fl
  rw [Nat.div_eq_of_lt (Nat.lt_of_lt_of_le (show tm t < 2 ^ 40 by omega) (Nat.pow_le_pow_right (by decide) h3))]
  simp
theorem fl_le (t b : Int) (L k : Nat) : fl t b L k ≤ tm t := by
  unfold fl
  have h : 2 ^ (wd b * (max k L - k)) ≤ 2 ^ (wd b * max k L) := Nat.pow_le_pow_right (by decide) (Nat.mul_le_mul_left _ (by omega))
  exact Nat.le_trans (Nat.mul_le_mul_left _ h) (Nat.div_mul_le_self _ _)
theorem fl_in (t b : Int) (L k : Nat) (h : L ≤ k) : fl t b L (k + 1) * 2 ^ wd b + dg t b k = fl t b L k := by
  unfold fl dg
  rw [show max (k + 1) L = k + 1 by omega, show max k L = k by omega, Nat.sub_self, Nat.sub_self, Nat.mul_zero, Nat.pow_zero, Nat.mul_one, Nat.mul_one]
  exact (split (wd b) (tm t) k).symm
theorem fl_out (t b : Int) (L k : Nat) (h : k < L) : fl t b L (k + 1) * 2 ^ wd b = fl t b L k := by
  unfold fl
  rw [show max (k + 1) L = L by omega, show max k L = L by omega, Nat.mul_assoc, ← Nat.pow_add]
  congr 3
  rw [show L - k = (L - (k + 1)) + 1 by omega, Nat.mul_add, Nat.mul_one]
theorem fl_end (t l b : Int) : fl t b l.toNat 0 = flo t l b := by
  unfold fl flo
  rw [show max 0 l.toNat = l.toNat by omega, Nat.sub_zero]
  have h1 := tm_lt t
  have h2 := wd_bd b
  by_cases h : l ≤ 64
  · have : lv l = l.toNat := by unfold lv; split <;> (try split) <;> omega
    unfold sh; rw [this, Nat.mul_comm l.toNat (wd b)]
  · have h3 : 40 ≤ wd b * l.toNat := Nat.le_trans (show 40 ≤ l.toNat by omega) (Nat.le_mul_of_pos_left _ h2.1)
    have h4 : 40 ≤ sh l b := by
      have : lv l = 64 := by unfold lv; rw [if_neg (by omega), if_pos (by omega)]
      unfold sh; rw [this]; omega
    rw [Nat.div_eq_of_lt (Nat.lt_of_lt_of_le (show tm t < 2 ^ 40 by omega) (Nat.pow_le_pow_right (by decide) h3)),
      Nat.div_eq_of_lt (Nat.lt_of_lt_of_le (show tm t < 2 ^ 40 by omega) (Nat.pow_le_pow_right (by decide) h4))]
    simp
theorem fl_mul (n p : Nat) (hn : n < 4294967296) (hp : p ≤ 64) : wrap64 ((n : Int) * (p : Int)) = ((n * p : Nat) : Int) := by
  have h : n * p ≤ 4294967296 * 64 := Nat.mul_le_mul (by omega) hp
  rw [show (n : Int) * (p : Int) = ((n * p : Nat) : Int) by simp]
  generalize n * p = q at h ⊢
  exact IntWalk.wrap64_in _ (by omega)

set_option maxHeartbeats 1000000 in
theorem Floor_c (t l b : Int) (w : World) : Calls Try.prog 27 #[.int .i64 t, .int .i64 l, .int .i64 b] w fun e w' => e = .returned (.int .i64 (flo t l b)) ∧ Made w w' := by
  have hfe := Lib.hid (fl_end t l b)
  obtain ⟨L, hL⟩ : ∃ L, L = l.toNat := ⟨_, rfl⟩
  rw [← hL] at hfe
  have HL : Hid (∀ j : Nat, (L ≤ j ↔ l ≤ (j : Int))) := by
    show ∀ j : Nat, (L ≤ j ↔ l ≤ (j : Int))
    intro j; omega
  clear hL
  go_enter Try.func27, Try.ntmps27
  go_wp2_with fail
  refine (Digits_c t b w).mono ?_
  rintro e w1 ⟨rfl, hB1⟩
  have hs1 := hB1.size
  go_wp2_with (first | (refine wpList_alloc_zero rfl 72 rfl Z40 all40 ?_) | (refine wpList_store_row rfl 72 (.tmp 7) (.tmp 12) rfl w1.heap.size (upto t b 40) (by simp [Act.eval, Act.put]) (by simp [Act.eval, Act.put]) 72 Z40 (heap_alloc_new _ _) (by rw [siz40, upto_size]) (by rw [upto_size, Z40_size]) (upto_one _ _ _) ?_; rw [World.setRow_alloc_new]))
  have H1 : Hid ((w1.alloc (.cells (upto t b 40) 72)).heap[w1.heap.size]? = some (.cells (upto t b 40) 72 (0, 0))) := heap_alloc_new _ _
  have hM : Below w.heap.size w (w1.alloc (.cells (upto t b 40) 72)) := Below.alloc hB1 hs1 _
  generalize w1.alloc (.cells (upto t b 40) 72) = w3 at H1 hM ⊢
  generalize w1.heap.size = B1 at *
  clear hB1 hs1
  go_loop [8, 9] (fun n i => ∃ (k q : Nat), k ≤ 40 ∧ i = .int .i64 ((k : Int) - 1) ∧ n = .int .i64 q ∧ q < 4294967296 ∧ Hid (q = fl t b L k)) (fun _ i => (intOf i + 1).toNat)
  case atStart => exact ⟨40, 0, by omega, rfl, rfl, by omega, (fl_start t b L).symm⟩
  case round =>
    obtain ⟨k, q, hk, rfl, rfl, hq, HQ⟩ := hrel
    by_cases hk0 : k = 0
    · subst hk0
      go_wp2
      go_ret
      exact ⟨ret_of (by rw [HQ.out, hfe.out]), hM⟩
    · obtain ⟨j, rfl⟩ : ∃ j, k = j + 1 := ⟨k - 1, by omega⟩
      have ej : ((j + 1 : Nat) : Int) - 1 = (j : Int) := by omega
      rw [ej]
      clear ej hk0
      have hj0 : 0 ≤ (j : Int) := by omega
      have hj1 : (j : Int) < 40 := by omega
      have hd := dg_lt t b j
      have c1 : w3.cell? ⟨B1, j, none⟩ = some (.int .i64 (dg t b j)) := by
        have := cell_of_row w3 B1 j _ _ _ H1.out
        rw [upto_get _ _ _ _ (by omega), if_pos (by omega)] at this
        exact this
      obtain ⟨p, hpe⟩ : ∃ p, p = 2 ^ wd b := ⟨_, rfl⟩
      have hp : p ≤ 64 := by rw [hpe]; exact Nat.le_trans (Nat.pow_le_pow_right (n := 2) (by decide) (wd_bd b).2) (show 2 ^ 6 ≤ 64 by decide)
      have hm := fl_mul q p hq hp
      have hl := Nat.lt_of_le_of_lt (fl_le t b L j) (tm_lt t)
      by_cases hlj : l ≤ (j : Int)
      · have HE : Hid (q * p + dg t b j = fl t b L j) := by show _ = _; rw [HQ.out, hpe]; exact fl_in t b L j ((HL.out j).2 hlj)
        have HS : Hid (∀ w : World, Calls Try.prog 48 #[.int .i64 b] w fun e w' => e = .returned (.int .i64 (p : Int)) ∧ w = w') := by
          show ∀ w : World, _
          intro w; rw [hpe]; exact Size_c b w
        clear hpe
        obtain ⟨m, hme⟩ : ∃ m, m = q * p := ⟨_, rfl⟩
        rw [← hme] at hm HE
        clear hme
        have hml : m < 4294967296 := by have := HE.out; omega
        go_wp2_with (first | (go_at_call 48; refine (HS.out _).mono ?_; rintro e w' ⟨rfl, rfl⟩))
        go_round
        case rel => exact ⟨j, m + dg t b j, by omega, rfl, by go_num, by have := HE.out; omega, HE⟩
        case measure => simp [intOf]
      · have HE : Hid (q * p = fl t b L j) := by show _ = _; rw [HQ.out, hpe]; exact fl_out t b L j (by have := HL.out j; omega)
        have HS : Hid (∀ w : World, Calls Try.prog 48 #[.int .i64 b] w fun e w' => e = .returned (.int .i64 (p : Int)) ∧ w = w') := by
          show ∀ w : World, _
          intro w; rw [hpe]; exact Size_c b w
        clear hpe
        obtain ⟨m, hme⟩ : ∃ m, m = q * p := ⟨_, rfl⟩
        rw [← hme] at hm HE
        clear hme
        go_wp2_with (first | (go_at_call 48; refine (HS.out _).mono ?_; rintro e w' ⟨rfl, rfl⟩))
        go_round
        case rel => exact ⟨j, m, by omega, rfl, by go_num, by have := HE.out; omega, HE⟩
        case measure => simp [intOf]
end Go.Proofs.Ytdmjokkjhbdnnaa.Ref5
