/- The statements of package knelllaw01 on parts of words, walked: WordParts, WordKept answer true. -/
import Derived.Test.YtdmjokkjhbdnnaaRef1
namespace Go.Proofs.Ytdmjokkjhbdnnaa.Law1
open Go.RowKit Go.Proofs.Ytdmjokkjhbdnnaa Go.Proofs.Ytdmjokkjhbdnnaa.Num Go.Proofs.Ytdmjokkjhbdnnaa.Wd
set_option linter.unusedVariables false
set_option linter.unusedSimpArgs false

theorem ex_packed : packed [(32, 1), (30, 2), (2, 1)] = (4294967305, 0) := by decide
set_option maxHeartbeats 400000 in
theorem speaks_c (w : World) : Calls Try.prog 13 #[] w fun e w' => e = .returned (.bool true) ∧ Made w w' := by
  go_enter Try.func13, Try.ntmps13
  go_wp2_with fail
  refine (StateWord_c 1 2 1 (by unfold I64; omega) (by unfold I64; omega) (by unfold I64; omega) _).mono ?_
  rw [ex_packed]
  rintro e w' ⟨rfl, hM⟩
  go_wp2_with fail
  go_ret
  exact ⟨rfl, hM⟩

set_option maxHeartbeats 1000000 in
theorem WordParts_c (x v : Nat) (s n : Int) (hx : x < 2 ^ 64) (hv : v < 2 ^ 64) (w : World) :
    Calls Try.prog 8 #[.int .u64 x, .int .i64 s, .int .i64 n, .int .u64 v] w fun e w' => e = .returned (.bool true) ∧ Made w w' := by
  by_cases hf : Fits s n
  · obtain ⟨S, rfl⟩ := Int.eq_ofNat_of_zero_le hf.1
    obtain ⟨N, rfl⟩ := Int.eq_ofNat_of_zero_le (Int.le_trans (by decide) hf.2.1)
    have h1 : 1 ≤ N := by have := hf.2.1; omega
    have h2 : S + N ≤ 64 := by have := hf.2.2.2; omega
    have HG := Lib.hid (fun w => Wd.Get_yes x S N hx h1 h2 w)
    have HG' := Lib.hid (fun w => Ref1.Get_yes x S N hx h1 h2 w)
    by_cases hb : v < 2 ^ N
    · have HP := Lib.hid (fun w => Wd.Put_yes x S N v hx h1 h2 hb w)
      have HP' := Lib.hid (fun w => Ref1.Put_yes x S N v hx h1 h2 hb w)
      generalize getN x S N = g at HG HG'
      generalize putN x S N v = p at HP HP'
      clear hf hx hv hb h1 h2
      go_enter Try.func8, Try.ntmps8
      go_wp2_with (first | (go_at_call 28; refine (HP.out _).mono ?_; rintro e w' ⟨rfl, q, rfl⟩) | (go_at_call 29; refine (HP'.out _).mono ?_; rintro e w' ⟨rfl, rfl⟩) | (go_at_call 13; refine (speaks_c _).mono ?_; rintro e w1 ⟨rfl, hM⟩) | (go_at_call 30; refine (HG.out _).mono ?_; rintro e w' ⟨rfl, q2, rfl⟩) | (go_at_call 31; refine (HG'.out _).mono ?_; rintro e w' ⟨rfl, rfl⟩))
      go_ret
      exact ⟨rfl, below_drewN (Made.trans (Made.drewN _ _) hM) _⟩
    · have HP := Lib.hid (fun w => Wd.Put_far x S N v hx hv h1 h2 hb w)
      have HP' := Lib.hid (fun w => Ref1.Put_far x S N v hx hv h1 h2 hb w)
      generalize getN x S N = g at HG HG'
      clear hf hx hv hb h1 h2
      go_enter Try.func8, Try.ntmps8
      go_wp2_with (first | (go_at_call 28; refine (HP.out _).mono ?_; rintro e w' ⟨rfl, rfl⟩) | (go_at_call 29; refine (HP'.out _).mono ?_; rintro e w' ⟨rfl, rfl⟩) | (go_at_call 13; refine (speaks_c _).mono ?_; rintro e w1 ⟨rfl, hM⟩) | (go_at_call 30; refine (HG.out _).mono ?_; rintro e w' ⟨rfl, q2, rfl⟩) | (go_at_call 31; refine (HG'.out _).mono ?_; rintro e w' ⟨rfl, rfl⟩))
      go_ret
      exact ⟨rfl, below_drewN hM _⟩
  · have HG := Lib.hid (fun w => Wd.Get_no x s n hf w)
    have HG' := Lib.hid (fun w => Ref1.Get_no x s n hf w)
    have HP := Lib.hid (fun w => Wd.Put_no x s n v hf w)
    have HP' := Lib.hid (fun w => Ref1.Put_no x s n v hf w)
    clear hf hx hv
    go_enter Try.func8, Try.ntmps8
    go_wp2_with (first | (go_at_call 28; refine (HP.out _).mono ?_; rintro e w' ⟨rfl, rfl⟩) | (go_at_call 29; refine (HP'.out _).mono ?_; rintro e w' ⟨rfl, rfl⟩) | (go_at_call 13; refine (speaks_c _).mono ?_; rintro e w1 ⟨rfl, hM⟩) | (go_at_call 30; refine (HG.out _).mono ?_; rintro e w' ⟨rfl, rfl⟩) | (go_at_call 31; refine (HG'.out _).mono ?_; rintro e w' ⟨rfl, rfl⟩))
    go_ret
    exact ⟨rfl, hM⟩

theorem u64_of {a : Int} (h : (Lit.int .u64 a).wf = true) : ∃ x : Nat, a = (x : Int) ∧ x < 2 ^ 64 := by
  simp [Lit.wf, IntKind.min, IntKind.max, IntKind.signed, IntKind.bits] at h
  exact ⟨a.toNat, by omega, by omega⟩
theorem parts (a s n v : Int) (w : World) (h0 : (Lit.int .u64 a).wf = true) (_ : (Lit.int .i64 s).wf = true) (_ : (Lit.int .i64 n).wf = true) (h3 : (Lit.int .u64 v).wf = true) :
    Calls Try.prog 8 #[.int .u64 a, .int .i64 s, .int .i64 n, .int .u64 v] w fun e w' => e = .returned (.bool true) ∧ Made w w' := by
  obtain ⟨x, rfl, hx⟩ := u64_of h0
  obtain ⟨y, rfl, hy⟩ := u64_of h3
  exact WordParts_c x y s n hx hy w
end Go.Proofs.Ytdmjokkjhbdnnaa.Law1
