/- Package knellref01, walked: Word, Numbers, Widths. -/
import Derived.Test.YtdmjokkjhbdnnaaRef1
namespace Go.Proofs.Ytdmjokkjhbdnnaa.Ref1
open Go.RowKit Go.Proofs.Ytdmjokkjhbdnnaa Go.Proofs.Ytdmjokkjhbdnnaa.Num Go.Proofs.Ytdmjokkjhbdnnaa.Wd
set_option linter.unusedVariables false
set_option linter.unusedSimpArgs false

theorem drawn1 {w wr : World} {q : Nat} (h : wr = w.drewN q) (n : Nat) : ∃ m, wr.drewN n = w.drewN m := ⟨q + n, by rw [h, World.drewN_drewN]⟩
theorem way_low {ps rest : List (Nat × Int)} {sh a : Nat} (h : Wd.Way ps rest sh (a * 2 ^ sh)) : a * 2 ^ sh < 2 ^ 64 := h.small
theorem mul_up (a n sh x : Nat) (h : n ≤ sh) : a * 2 ^ sh + x * 2 ^ (sh - n) = (a * 2 ^ n + x) * 2 ^ (sh - n) := by
  rw [Nat.add_mul, Nat.mul_assoc, ← Nat.pow_add, show n + (sh - n) = sh by omega]
theorem sum_u64 (a p x : Nat) (h : a * p + x < 2 ^ 64) : IntKind.u64.wrap (IntKind.u64.wrap ((a : Int) * (p : Int)) + (x : Int)) = ((a * p + x : Nat) : Int) := by
  rw [show (a : Int) * (p : Int) = ((a * p : Nat) : Int) by simp]
  generalize a * p = c at h ⊢
  simp only [IntKind.wrap_u64]
  omega

set_option maxHeartbeats 1000000 in
theorem Word_c (ps : List (Nat × Int)) (b1 b2 : Nat) (h8 : ps.length ≤ 8) (hw : ∀ p ∈ ps, 1 ≤ p.1 ∧ p.1 ≤ 63) (hx : ∀ p ∈ ps, -9223372036854775808 ≤ p.2 ∧ p.2 ≤ 9223372036854775807) (hs : (ps.map (·.1)).sum = 64) (w : World)
    (hc1 : ∀ k (h : k < ps.length), w.cell? ⟨b1, k, none⟩ = some (.int .i64 ps[k].2)) (hc2 : ∀ k (h : k < ps.length), w.cell? ⟨b2, k, none⟩ = some (.int .i64 (ps[k].1 : Int))) :
    Calls Try.prog 19 #[.slice (some ⟨b1, 0, none⟩) ps.length ps.length, .slice (some ⟨b2, 0, none⟩) ps.length ps.length] w fun e w' =>
      e = .returned (.tuple #[.int .u64 ((packed ps).1 : Int), .int .i64 (packed ps).2]) ∧ ∃ q, w' = w.drewN q := by
  have HC1 := Lib.hid hc1
  have HC2 := Lib.hid hc2
  have HW := Lib.hid hw
  have HX := Lib.hid hx
  have hst := Lib.hid (Wd.Way.start ps (by omega))
  have HSUM := Lib.hid hs
  clear hc1 hc2 hw hx hs
  obtain ⟨N, hN⟩ : ∃ N, N = ps.length := ⟨_, rfl⟩
  rw [← hN] at h8 ⊢
  have HN := Lib.hid hN
  clear hN
  go_enter Try.func19, Try.ntmps19
  go_wp2
  go_loopw [6, 7] (fun a i wr => ∃ (k sh acc q : Nat), k ≤ N ∧ i = .int .i64 k ∧ a = .int .u64 acc ∧ Hid (Wd.Way ps (ps.drop k) sh (acc * 2 ^ sh)) ∧ Hid (sh = ((ps.drop k).map (·.1)).sum) ∧ wr = w.drewN q) (fun _ i _ => (N - intOf i).toNat)
  case atStart => exact ⟨0, 64, 0, 0, by omega, rfl, rfl, (show Wd.Way _ _ _ _ by rw [Nat.zero_mul]; exact hst.out), (show _ = _ by rw [List.drop_zero]; exact HSUM.out.symm), rfl⟩
  case round =>
    obtain ⟨k, sh, acc, q, hk, rfl, rfl, HWay, HSH, hwr⟩ := hrel
    have HWR := Lib.hid hwr
    have hcell : ∀ a, wr.cell? a = w.cell? a := fun a => by rw [hwr]; rfl
    clear hwr
    by_cases hkN : k < N
    · have hkl : k < ps.length := by have := HN.out; omega
      have c1 := (hcell _).trans (HC1.out k hkl)
      have c2 := (hcell _).trans (HC2.out k hkl)
      clear hcell
      have hw1 := HW.out ps[k] (List.getElem_mem hkl)
      have hx1 := HX.out ps[k] (List.getElem_mem hkl)
      have hway := HWay.out
      have hsh := HSH.out
      rw [List.drop_eq_getElem_cons hkl] at hway hsh
      obtain ⟨p, hp⟩ : ∃ p, p = ps[k] := ⟨_, rfl⟩
      rw [← hp] at c1 c2 hw1 hx1 hway hsh
      clear hp HWay HSH
      obtain ⟨n, x⟩ := p
      simp only [List.map_cons, List.sum_cons] at c1 c2 hw1 hx1 hsh
      have HSH' : Hid (sh - n = ((ps.drop (k + 1)).map (·.1)).sum) := by show _ = _; omega
      clear hsh
      have hk0 : 0 ≤ (k : Int) := by omega
      have hk1 : (k : Int) < (N : Int) := by omega
      by_cases hneg : x < 0
      · have hr := Lib.hid (packed_none (hway.fail (fun h => by omega)))
        clear hway
        have hd : decide (x < 0) = true := by simpa using hneg
        go_wp2
        go_quiet (fail)
        go_wp2
        go_ret2
        exact ⟨Wd.ret2_of (by rw [hr.out]; rfl) (by rw [hr.out]), drawn1 HWR.out _⟩
      · obtain ⟨X, rfl⟩ := Int.eq_ofNat_of_zero_le (show 0 ≤ x by omega)
        have hd : decide ((X : Int) < 0) = false := by simp
        obtain ⟨P, hP⟩ : ∃ P, P = 2 ^ n := ⟨_, rfl⟩
        have HPC : Hid (∀ w : World, Calls Try.prog 43 #[.int .i64 (n : Int)] w fun e w' => e = .returned (.int .u64 (P : Int)) ∧ w = w') := by
          show ∀ w : World, _
          intro w; rw [hP]; exact Power_c n hw1.2 w
        by_cases hfit : X < 2 ^ n
        · obtain ⟨hn, _, _, h4⟩ := hway.step hfit
          rw [mul_up _ _ _ _ hn, ← hP] at h4
          have HW4 := Lib.hid h4
          have hlt : acc * P + X < 2 ^ 64 := Nat.lt_of_le_of_lt (Nat.le_mul_of_pos_right _ (Nat.two_pow_pos _)) h4.small
          have hsum := Lib.hid (sum_u64 acc P X hlt)
          have hXP : (X : Int) < (P : Int) := by rw [hP]; exact_mod_cast hfit
          have hge : decide ((P : Int) ≤ (X : Int)) = false := by simpa using hXP
          clear hfit h4 hway hlt hP hneg
          go_wp2
          go_quiet (first | (go_at_call 43; refine Calls.quiet_of_same ((HPC.out _).mono fun e w' h => ⟨h.1, h.2.symm⟩)))
          go_wp2
          obtain ⟨q', hq'⟩ := drawn1 HWR.out nq
          have c1' : (wr.drewN nq).cell? ⟨b1, k, none⟩ = some (.int .i64 (X : Int)) := c1
          have c2' : (wr.drewN nq).cell? ⟨b2, k, none⟩ = some (.int .i64 (n : Int)) := c2
          generalize wr.drewN nq = wr2 at c1' c2' hq' ⊢
          clear c1 c2
          have HQ' := Lib.hid hq'
          clear hq'
          go_quiet (first | (go_at_call 43; refine Calls.quiet_of_same ((HPC.out _).mono fun e w' h => ⟨h.1, h.2.symm⟩)))
          go_wp2
          go_roundw
          case rel =>
            obtain ⟨q'', hq''⟩ := drawn1 HQ'.out nq
            exact ⟨k + 1, sh - n, acc * P + X, q'', by omega, by go_num, by first | rw [hsum.out] | (rw [← hsum.out]), HW4, HSH', hq''⟩
          case measure => simp [intOf]; omega
        · have hr := Lib.hid (packed_none (hway.fail (fun h => hfit (by exact_mod_cast h.2))))
          have hXP : (P : Int) ≤ (X : Int) := by rw [hP]; exact_mod_cast Nat.le_of_not_lt hfit
          clear hway hfit hP hneg
          go_wp2
          go_quiet (first | (go_at_call 43; refine Calls.quiet_of_same ((HPC.out _).mono fun e w' h => ⟨h.1, h.2.symm⟩)))
          go_wp2
          go_ret2
          exact ⟨Wd.ret2_of (by rw [hr.out]; rfl) (by rw [hr.out]), drawn1 HWR.out _⟩
    · obtain rfl : k = N := by omega
      clear hcell
      have hway := HWay.out
      have hsh := HSH.out
      rw [List.drop_of_length_le (by have := HN.out; omega)] at hway hsh
      simp only [List.map_nil, List.sum_nil] at hsh
      subst hsh
      have hr := Lib.hid (packed_some hway.done)
      rw [Nat.pow_zero, Nat.mul_one] at hr
      clear hway
      go_wp2
      go_ret2
      exact ⟨Wd.ret2_of (by rw [hr.out]) (by rw [hr.out]), q, HWR.out⟩

/-- A row of whole numbers in memory. -/
def ints (l : List Nat) : Array Value := (l.map fun (n : Nat) => Value.int .i64 (n : Int)).toArray
/-- The widths of a kind of words. -/
def widthsOf (k : Nat) : List Nat := match k with | 0 => [32, 30, 2] | 3 => [32, 32] | 4 => [26, 5, 3, 30] | _ => [32, 16, 16]

set_option maxHeartbeats 400000 in
theorem Widths_c (k : Nat) (w : World) : Calls Try.prog 20 #[.int .i64 (k : Int)] w fun e w' => e = .returned (.slice (some ⟨w.heap.size, 0, none⟩) (widthsOf k).length (widthsOf k).length) ∧ w.alloc (.cells (ints (widthsOf k)) 3) = w' := by
  by_cases h0 : k = 0
  · subst h0
    go_enter Try.func20, Try.ntmps20
    go_wp2
    go_ret
    exact ⟨rfl, rfl⟩
  · by_cases h3 : k = 3
    · subst h3
      go_enter Try.func20, Try.ntmps20
      go_wp2
      go_ret
      exact ⟨rfl, rfl⟩
    · by_cases h4 : k = 4
      · subst h4
        go_enter Try.func20, Try.ntmps20
        go_wp2
        go_ret
        exact ⟨rfl, rfl⟩
      · have hk : Hid (widthsOf k = [32, 16, 16]) := by
          show _ = _
          unfold widthsOf; split <;> first | rfl | omega
        rw [hk.out]
        have g0 : ((k : Int) == 0) = false := by rw [beq_eq_false_iff_ne]; omega
        have g3 : ((k : Int) == 3) = false := by rw [beq_eq_false_iff_ne]; omega
        have g4 : ((k : Int) == 4) = false := by rw [beq_eq_false_iff_ne]; omega
        clear h0 h3 h4
        go_enter Try.func20, Try.ntmps20
        go_wp2
        go_ret
        exact ⟨rfl, rfl⟩
end Go.Proofs.Ytdmjokkjhbdnnaa.Ref1
