/- Package knelllaw03, PlanFresh: what the walk needs to know, in one parcel. -/
import Derived.Test.YtnkcekgjppkbpaaFresh4
import Derived.Test.YtnkcekgjppkbpaaLaw3f
import Derived.Test.YtnkcekgjppkbpaaOfs
namespace Go.Proofs.Ytnkcekgjppkbpaa.Law3
open Go.RowKit Go.Proofs.Ytnkcekgjppkbpaa Go.Proofs.Ytnkcekgjppkbpaa.PlanN Go.Proofs.Ytnkcekgjppkbpaa.Plan Go.Proofs.Ytnkcekgjppkbpaa.Fresh Go.Proofs.Ytnkcekgjppkbpaa.Wd Go.Proofs.Ytnkcekgjppkbpaa.Num
set_option linter.unusedVariables false
set_option linter.unusedSimpArgs false

/-- What lies in memory while the law looks on: the configuration, the plan, the fresh arena, the row of all. -/
def ptr (a : Nat) : Value := .pointer (some ⟨a, 0, none⟩)
structure FF (xs : List Int) (Z N T v : Nat) (F : Int) (st ln lt : Nat → Nat) (R0 : List Int) (ZN ZT : Nat → List Int) : Prop where
  fresh : ∀ (p : Nat) (w : World), IsPlan w p xs → Calls Try.prog 55 #[.pointer (some ⟨p, 0, none⟩)] w fun e w' => ∃ a b, e = .returned (.pointer (some ⟨a, 0, none⟩)) ∧ Cell.Arena w' a b 0 R0 ∧ w.heap.size ≤ a ∧ w.heap.size ≤ b ∧ Made w w'
  state : ∀ (p k : Nat) (w : World), IsPlan w p xs → k < N → Calls Try.prog 43 #[.pointer (some ⟨p, 0, none⟩), .int .i64 (k : Int)] w fun e w' => e = .returned (.int .i64 (st k : Int)) ∧ Made w w'
  link : ∀ (p k : Nat) (w : World), IsPlan w p xs → k < N → Calls Try.prog 46 #[.pointer (some ⟨p, 0, none⟩), .int .i64 (k : Int)] w fun e w' => e = .returned (.int .i64 (ln k : Int)) ∧ Made w w'
  tlink : ∀ (p k : Nat) (w : World), IsPlan w p xs → k < T → Calls Try.prog 49 #[.pointer (some ⟨p, 0, none⟩), .int .i64 (k : Int)] w fun e w' => e = .returned (.int .i64 (lt k : Int)) ∧ Made w w'
  stateOf : ∀ (w : World), Calls Try.prog 56 #[.int .u64 (v : Int)] w fun e w' => e = .returned (.agg #[.int .i64 F, .int .i64 0, .int .i64 0]) ∧ Made w w'
  headOf : ∀ (w : World), Calls Try.prog 57 #[.int .u64 1] w fun e w' => e = .returned (.agg #[.int .i64 0, .int .i64 0]) ∧ Made w w'
  n0 : ZN 0 = R0
  t0 : ZT 0 = ZN N
  nst : ∀ k, k < N → st k < Z ∧ ln k < Z ∧ st k ≠ ln k ∧ (ZN k)[st k]? = some (v : Int) ∧ (ZN k)[ln k]? = some (if k + 1 = N then 0 else (k : Int) + 2) ∧ ZN (k + 1) = ((ZN k).set (st k) 0).set (ln k) 0
  nt : ∀ k, k < T → lt k < Z ∧ (ZT k)[lt k]? = some (if k + 1 = T then 0 else (k : Int) + 2) ∧ ZT (k + 1) = (ZT k).set (lt k) 0
  lenN : ∀ k, (ZN k).length = Z
  lenT : ∀ k, (ZT k).length = Z
  len0 : R0.length = Z
  one : (ZT T)[1]? = some 1
  two : (ZT T)[2]? = some 1
  all : ∀ i, i < Z → (((ZT T).set 1 0).set 2 0)[i]? = some 0
  zero : R0[0]? = some 0
  cn : xs.getD 3 0 = (N : Int)
  ct : xs.getD 4 0 = (T : Int)
  cf : xs.getD 6 0 = F
  n1 : 1 ≤ N
  n2 : N ≤ 4096
  t1 : 1 ≤ T
  t2 : T ≤ 8192
  z1 : 3 ≤ Z
  v64 : v < 2 ^ 64
theorem ff {xs : List Int} (h : xs.length = 13) (hr : Rgt xs) {Z : Nat} (hZ : size xs = (Z : Int)) (hZ2 : Z ≤ 20000) : ∃ N T v F st ln lt R0 ZN ZT, FF xs Z N T v F st ln lt R0 ZN ZT := by
  obtain ⟨W, L, S, N, T, C, hn⟩ := nats h hr
  obtain ⟨nb, hnb⟩ : ∃ nb, nb = 3 + W * (3 + L * (1 + S)) := ⟨_, rfl⟩
  have hz := hn.size
  rw [← hnb] at hz
  have hZe : Z = nb + 4 * N + 3 * T + C := by rw [hZ] at hz; exact_mod_cast hz
  have HG := rng hr
  have hN := HG.n; rw [hn.n] at hN
  have hT := HG.t; rw [hn.t] at hT
  have hF := HG.f
  obtain ⟨F, hFe⟩ := Int.eq_ofNat_of_zero_le hF.1
  have hF2 : F < 2 ^ 32 := by omega
  have L4 : Lay4 Z N T (fun k => nb + k * 4 + 0) (fun k => nb + k * 4 + 3) (fun k => nb + 4 * N + k * 3 + 2) nb := ⟨by rw [hnb]; omega, fun _ => rfl, fun _ => rfl, fun _ => rfl, by omega, by omega, by omega⟩
  have e0 : ∀ k, k < N → nodeI xs (k : Int) 0 = ((nb + k * 4 + 0 : Nat) : Int) := fun k hk => by rw [hnb]; exact hn.node_ hk 0
  have e3 : ∀ k, k < N → nodeI xs (k : Int) 3 = ((nb + k * 4 + 3 : Nat) : Int) := fun k hk => by rw [hnb]; exact hn.node_ hk 3
  have e2 : ∀ k, k < T → ticketI xs (k : Int) 2 = ((nb + 4 * N + k * 3 + 2 : Nat) : Int) := fun k hk => by rw [hnb]; exact hn.ticket_ hk 2
  have hv : (packed [(32, xs.getD 6 0), (30, 0), (2, 0)]).1 = F * 2 ^ 32 := by rw [hFe]; exact state_word hF2
  have hsp := state_parts hF2
  have hhp := head_parts
  have hv64 : F * 2 ^ 32 < 2 ^ 64 := by omega
  refine ⟨N, T, F * 2 ^ 32, xs.getD 6 0, fun k => nb + k * 4 + 0, fun k => nb + k * 4 + 3, fun k => nb + 4 * N + k * 3 + 2,
    row0 Z N T (fun k => nb + k * 4 + 0) (fun k => nb + k * 4 + 3) (fun k => nb + 4 * N + k * 3 + 2) ((F * 2 ^ 32 : Nat) : Int),
    zn (row0 Z N T (fun k => nb + k * 4 + 0) (fun k => nb + k * 4 + 3) (fun k => nb + 4 * N + k * 3 + 2) ((F * 2 ^ 32 : Nat) : Int)) (fun k => nb + k * 4 + 0) (fun k => nb + k * 4 + 3),
    zt (zn (row0 Z N T (fun k => nb + k * 4 + 0) (fun k => nb + k * 4 + 3) (fun k => nb + 4 * N + k * 3 + 2) ((F * 2 ^ 32 : Nat) : Int)) (fun k => nb + k * 4 + 0) (fun k => nb + k * 4 + 3) N) (fun k => nb + 4 * N + k * 3 + 2), ?_⟩
  have b3 : 3 ≤ nb := by rw [hnb]; omega
  exact {
    fresh := fun p w hp => Fresh_c hp h hr Z N T hZ hn.n hn.t (by omega) hZ2 (by omega) (by omega) (by omega) (by omega) _ _ _ (fun k hk => ⟨e3 k hk, by omega⟩) (fun k hk => ⟨e2 k hk, by omega⟩) (fun k hk => ⟨e0 k hk, by omega⟩) (by unfold I64; omega) _ hv
    state := fun p k w hp hk => by
      have hh := State_c hp h hr (k : Int)
      rw [e0 k hk] at hh
      exact hh.mono fun e w'' ⟨h1, n, h2⟩ => ⟨h1, by rw [h2]; exact Made.drewN _ n⟩
    link := fun p k w hp hk => by
      have hh := NodeLink_c hp h hr (k : Int)
      rw [e3 k hk] at hh
      exact hh.mono fun e w'' ⟨h1, n, h2⟩ => ⟨h1, by rw [h2]; exact Made.drewN _ n⟩
    tlink := fun p k w hp hk => by
      have hh := TicketLink_c hp h hr (k : Int)
      rw [e2 k hk] at hh
      exact hh.mono fun e w'' ⟨h1, n, h2⟩ => ⟨h1, by rw [h2]; exact Made.drewN _ n⟩
    stateOf := fun w => by
      have hh := StateOf_c (F * 2 ^ 32) hv64 w
      rw [hsp.1, hsp.2.1, hsp.2.2, ← hFe] at hh
      exact hh
    headOf := fun w => by
      have hh := HeadOf_c 1 (by decide) w
      rw [hhp.1, hhp.2] at hh
      exact hh
    n0 := rfl
    t0 := rfl
    nst := fun k hk => ⟨by omega, by omega, by omega, zn_st L4 hk, zn_ln L4 hk, rfl⟩
    nt := fun k hk => ⟨by omega, zt_lt L4 hk, rfl⟩
    lenN := fun k => by rw [zn_len, row0_len]
    lenT := fun k => by rw [zt_len, zn_len, row0_len]
    len0 := row0_len
    one := zt_one L4
    two := zt_two L4
    all := fun i hi => zt_all L4 hi
    zero := row0_zero L4
    cn := hn.n
    ct := hn.t
    cf := rfl
    n1 := by omega
    n2 := by omega
    t1 := by omega
    t2 := by omega
    z1 := by omega
    v64 := hv64 }
end Go.Proofs.Ytnkcekgjppkbpaa.Law3
