/- Layer 9's laws: rounds of codes; rows that are alike. -/
import Derived.Test.YtndpkonihcebeaaRnd9
namespace Go.Proofs.Ytndpkonihcebeaa.Kod.Nine
open Go.RowKit Go.Proofs.Ytndpkonihcebeaa Go.Proofs.Ytndpkonihcebeaa.Cell Go.Proofs.Ytndpkonihcebeaa.Wd
set_option linter.unusedVariables false
set_option linter.unusedSimpArgs false

set_option maxRecDepth 100000 in
set_option maxHeartbeats 2000000 in
/-- Two rows that are alike. -/
theorem Same_q (xs : List Int) (A B : Option Addr) (N c1 c2 : Nat) (hN : N = xs.length) (w : World) (hA : ∀ k (h : k < xs.length), ∃ d, A = some d ∧ w.cell? (d.add k) = some (.int .i64 xs[k])) (hB : ∀ k (h : k < xs.length), ∃ d, B = some d ∧ w.cell? (d.add k) = some (.int .i64 xs[k])) (hn : N ≤ 100000) :
    Calls Try.prog 22 #[.slice A N c1, .slice B N c2] w fun e w' => e = .returned (.bool true) ∧ ∃ q, w' = w.drewN q := by
  have HA := Lib.hid hA
  have HB := Lib.hid hB
  have HN := Lib.hid hN
  clear hA hB hN
  go_enter Try.func22, Try.ntmps22
  go_wp2_with fail
  go_loopw [5] (fun i wr => ∃ k q : Nat, k ≤ N ∧ i = .int .i64 k ∧ wr = w.drewN q) (fun i _ => (N - intOf i).toNat)
  case atStart => exact ⟨0, 0, by omega, rfl, rfl⟩
  case round =>
    obtain ⟨k, q, hk, rfl, hwr⟩ := hrel
    have HWR := Lib.hid hwr
    have hcell : ∀ a, wr.cell? a = w.cell? a := fun a => by rw [hwr]; rfl
    by_cases hkN : k < N
    · have hkl : k < xs.length := by have := HN.out; omega
      obtain ⟨a, rfl, ca⟩ := HA.out k hkl
      obtain ⟨b, rfl, cb⟩ := HB.out k hkl
      rw [← hcell] at ca cb
      generalize xs[k] = x at ca cb
      have k0 : 0 ≤ (k : Int) := by omega
      have k1 : (k : Int) < (N : Int) := by omega
      clear hcell hwr
      go_wp2_with fail
      go_quiet (fail)
      go_wp2_with fail
      go_roundw
      case rel => obtain ⟨q2, hq2⟩ : ∃ m, wr.drewN nq = w.drewN m := ⟨q + nq, by rw [HWR.out, World.drewN_drewN]⟩; exact ⟨k + 1, q2, by omega, by go_num, hq2⟩
      case measure => simp [intOf]; omega
    · obtain rfl : N = k := by omega
      subst hwr
      clear hcell
      go_wp2_with fail
      go_ret
      exact ⟨rfl, q, rfl⟩
theorem Same_c (xs : List Int) (A B : Option Addr) (N c1 c2 : Nat) (hN : N = xs.length) (w : World) (hA : ∀ k (h : k < xs.length), ∃ d, A = some d ∧ w.cell? (d.add k) = some (.int .i64 xs[k])) (hB : ∀ k (h : k < xs.length), ∃ d, B = some d ∧ w.cell? (d.add k) = some (.int .i64 xs[k])) (hn : N ≤ 100000) :
    Calls Try.prog 22 #[.slice A N c1, .slice B N c2] w fun e w' => e = .returned (.bool true) ∧ Made w w' := (Same_q xs A B N c1 c2 hN w hA hB hn).mono fun e w' ⟨h, q, hq⟩ => ⟨h, by rw [hq]; exact Made.drewN _ _⟩

/-- The beginning: an empty box. -/
theorem Chn.empty (nn : Nat) : Chn nn (List.replicate (2 + 2 * nn) 0) (ix ((List.replicate (2 + 2 * nn) (0 : Int)).getD 0 0)) [] := by
  have e : (List.replicate (2 + 2 * nn) (0 : Int)).getD 0 0 = 0 := by
    rw [List.getD_eq_getElem?_getD, List.getElem?_replicate, if_pos (by omega)]
    rfl
  rw [e]
  rfl
theorem Two.empty (nn : Nat) (h : nn ≤ 100) : Two nn (fun _ => false) (List.replicate (2 + 2 * nn) 0) [] [] := by
  have e : ∀ k : Nat, (List.replicate (2 + 2 * nn) (0 : Int)).getD k 0 = 0 := fun k => by
    rw [List.getD_eq_getElem?_getD, List.getElem?_replicate]
    split <;> rfl
  refine ⟨by simp, h, Chn.empty nn, ?_, fun i h0 h1 => ?_⟩
  · rw [e]; rfl
  · rw [e]; simp
theorem zeros9 (nn : Nat) : ∀ x ∈ List.replicate (2 + 2 * nn) (0 : Int), 0 ≤ x ∧ x < 18446744073709551616 := fun x hx => by
  have := List.eq_of_mem_replicate hx
  omega
theorem Box.toLies {S : Sys} {w : World} {L : Lay} {g : Nat} {v : Value} (h : Box S w L g v) : Lies S w L (some ⟨g, 0, none⟩) [v] := fun i u hi => by
  have hl : i < 1 := by have := (List.getElem?_eq_some_iff.1 hi).1; simpa using this
  obtain rfl : i = 0 := by omega
  obtain rfl : v = u := by simpa using hi
  refine ⟨⟨g, 0, none⟩, rfl, h.lt, h.apart, ?_⟩
  have e : (⟨g, 0, none⟩ : Addr).add 0 = ⟨g, 0, none⟩ := by unfold Addr.add; split <;> simp_all
  rw [e]
  exact h.cell
/-- A new box. -/
theorem Grp.begin9 {a b ba bn nn B m n : Nat} {w0 w : World} (hA : Arena w a b 0 (List.replicate (2 + 2 * nn) 0)) (hnn : nn ≤ 100) (hn : n < 4611686018427387904) (ha : B ≤ a) (hb : B ≤ b) (n1 : ba ≠ a) (n2 : ba ≠ b) (n3 : bn ≠ a) (n4 : bn ≠ b) (hba : w.cell? ⟨ba, 0, none⟩ = some (.pointer (some ⟨a, 0, none⟩))) (hbn : w.cell? ⟨bn, 0, none⟩ = some (.int .i64 (nn : Int))) (hB : Below B w0 w) (hle : B ≤ w.heap.size) :
    Grp (S9 a b nn none) B m n (mk a b nn none [] ⟨0, List.replicate (2 + 2 * nn) 0, [], ⟨[], []⟩⟩) [] [] [] [(some ⟨ba, 0, none⟩, [.pointer (some ⟨a, 0, none⟩)]), (some ⟨bn, 0, none⟩, [.int .i64 (nn : Int)])] (fun _ => False) w0 w := by
  have hi : Inv (S9 a b nn none) n ⟨0, List.replicate (2 + 2 * nn) 0, [], ⟨[], []⟩⟩ [] ⟨[], fun _ => False, fun _ => False, []⟩ w := Inv.start (S := S9 a b nn none) hA (zeros9 nn) (by simp; omega) hn (fun k hk => hk.elim) ⟨rfl, fun _ => .nilFunc, ⟨fun i g o xs h => ?_, fun i g o xs h => ?_, fun i g o xs h => ?_, fun i g o xs k h => ?_, fun i j x y k hij h => ?_, fun i j g o xs o' ys hij h => ?_⟩⟩
  · have hmut : ∀ k, k ≠ a → k ≠ b → ¬ Mut (S9 a b nn none) ⟨[], fun _ => False, fun _ => False, []⟩ k := fun k h1 h2 e => by
      rcases e with e | e | e | e | e
      · exact h1 e
      · exact h2 e
      · simp at e
      · exact e
      · exact e
    refine ⟨⟨[], _, Ready.start (m := m) hi, rfl, rfl, ⟨hle, fun k hk => hmut k (by omega) (by omega)⟩, fun c hc => by simp at hc, fun z hz => ?_, fun k => Iff.rfl⟩, hB, fun k hk => hk.elim⟩
    rcases List.mem_cons.1 hz with rfl | hz
    · exact Box.toLies ⟨Go.block_lt_of_cell hba, hmut _ n1 n2, hba⟩
    · obtain rfl := List.mem_singleton.1 hz
      exact Box.toLies ⟨Go.block_lt_of_cell hbn, hmut _ n3 n4, hbn⟩
  all_goals
    exfalso
    cases i <;> simp [V9] at h
/-- Rounds of codes: j are through. -/
structure Rounds (a b nn B N T ob : Nat) (cs : Nat → K9) (C : List (K9 × Value)) (Z : List (Option Addr × List Value)) (own : Nat → Prop) (w0 : World) (bls : Nat → List Int × List (List Int × List Int)) (j : Nat) (wr : World) : Prop where
  ex : ∃ ts τ, Grp (S9 a b nn none) B (N * (T - j)) (2 * (N * (T - j))) (mk a b nn none (List.replicate j .done) τ) ts [ob] C Z own w0 wr ∧ Two nn (fun _ => false) τ.xs (bls j).1 [] ∧ τ.r = ⟨(bls j).2, []⟩
theorem Rounds.step {a b nn B N T ob j most : Nat} {cs : Nat → K9} {C : List (K9 × Value)} {Z : List (Option Addr × List Value)} {own : Nat → Prop} {w0 wr : World} {bls : Nat → List Int × List (List Int × List Int)} {v : Value} (h : Rounds a b nn B N T ob cs C Z own w0 bls j wr) (hj : j < T) (hv : (cs j, v) ∈ C) (S : ∀ xs, So nn (fun _ => false) xs (bls j).1 [] [] (bls j).2 (cs j)) (hf : fin9 (fun _ => false) (bls j).1 [] [] (bls j).2 (cs j) = ((bls (j + 1)).1, [], (bls (j + 1)).2)) (hc : cost9 (bls j).1 [] (cs j) ≤ N) (hm : N ≤ most) :
    Calls Try.prog 14 #[v] wr fun e w1 => ∃ tb, e = .returned (.pointer (some ⟨tb, 0, none⟩)) ∧ Hid (Calls Try.prog 18 #[.pointer (some ⟨tb, 0, none⟩), .int .i64 (most : Int)] w1 fun e w2 => e = .returned (.bool true) ∧ Hid (Rounds a b nn B N T ob cs C Z own w0 bls (j + 1) w2)) := by
  obtain ⟨ts, τ, hg, T0, hr⟩ := h.ex
  have e1 : T - j = (T - (j + 1)) + 1 := by omega
  rw [e1, Nat.mul_add, Nat.mul_one, Nat.mul_add] at hg
  refine (Grp.round9 (N := N) (k := cs j) hg hv T0 (by rw [hr]; simp) (by rw [hr]; exact S τ.xs) hc hm).mono ?_
  rintro e w1 ⟨tb, rfl, hfin⟩
  refine ⟨tb, rfl, hfin.out.mono ?_⟩
  rintro e w2 ⟨rfl, τ', bl', fl', g1, g2, g3, g4⟩
  rw [hr] at g3 g4
  rw [hf] at g3
  simp only [Prod.mk.injEq] at g3
  obtain ⟨rfl, rfl, h3⟩ := g3
  refine ⟨rfl, ⟨ts ++ [tb], τ', ?_, g2, ?_⟩⟩
  · rw [List.replicate_succ']
    exact g1
  · rw [show τ'.r = ⟨τ'.r.own, τ'.r.ended⟩ from rfl, h3, g4]
end Go.Proofs.Ytndpkonihcebeaa.Kod.Nine
