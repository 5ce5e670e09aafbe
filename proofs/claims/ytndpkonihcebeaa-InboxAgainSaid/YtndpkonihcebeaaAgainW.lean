/- Statement InboxAgain (layer 9), walked: true, for all whole numbers of eight bits. -/
import Derived.Test.YtndpkonihcebeaaAgain9
namespace Go.Proofs.Ytndpkonihcebeaa.Kod.Nine
open Go.RowKit Go.Proofs.Ytndpkonihcebeaa Go.Proofs.Ytndpkonihcebeaa.Cell Go.Proofs.Ytndpkonihcebeaa.Wd
set_option linter.unusedVariables false
set_option linter.unusedSimpArgs false

/-- Code that is nil where there is nothing to do. -/
def cv (n : Nat) (f : FuncId) (c : Array Value) : Value := if n = 0 then .nilFunc else .func (.func f) #[] c
theorem Grp.cv {a b' B m n k : Nat} {b : Int} {nn : Int} {eb : Option Nat} {M : Mach (S9 a b' nn eb)} {ts gh : List Nat} {v : Value} {C : List (K9 × Value)} {Z : List (Option Addr × List Value)} {own : Nat → Prop} {w0 wr : World} (h : Grp (S9 a b' nn eb) B m n M ts gh ((kput false (nums9 b k), v) :: C) Z own w0 wr) : ∃ f c, v = Nine.cv k f c := by
  by_cases hk : k = 0
  · subst hk
    obtain ⟨rs, L, hr, hts, hgh, hold, hC, hZ, hscr⟩ := h.ex
    have hp := hC _ List.mem_cons_self
    refine ⟨0, #[], ?_⟩
    have e : nums9 b 0 = [] := rfl
    simp only [e, kput] at hp
    cases m with
    | zero =>
      rcases hp with ⟨_, h2⟩ | ⟨h1, _⟩
      · simpa [Nine.cv] using h2
      · simp [S9] at h1
    | succ m =>
      rcases hp with ⟨_, h2⟩ | ⟨h1, _⟩
      · simpa [Nine.cv] using h2
      · simp [S9] at h1
  · obtain ⟨k, rfl⟩ : ∃ j, k = j + 1 := ⟨k - 1, by omega⟩
    obtain ⟨f, c, rfl⟩ := Grp.live h List.mem_cons_self (by
      cases hq : nums9 b (k + 1) with
      | nil => have := nums9_len b (k + 1); rw [hq] at this; simp at this
      | cons t l => rfl)
    exact ⟨f, c, by simp [Nine.cv]⟩
theorem cv_or (n : Nat) : (∀ f c, cv n f c = .nilFunc) ∨ (∀ f c, cv n f c = .func (.func f) #[] c) := by
  by_cases h : n = 0
  · exact Or.inl fun f c => by simp [Nine.cv, h]
  · exact Or.inr fun f c => by simp [Nine.cv, h]
/-- The four codes of the law. -/
theorem codes_c {a b ba bn B g0 ob c c' : Nat} {A A' : Option Addr} {n m : Nat} {τ : St R9} {Z : List (Option Addr × List Value)} {w0 wr : World} (h : Grp (S9 a b (20 : Nat) none) B (400 * 4) (2 * (400 * 4)) (mk a b (20 : Nat) none [] τ) [] [ob] [] Z (fun _ => False) w0 wr) (hn : n < 10) (hm : m < 10) (hc : n ≤ c ∧ c ≤ maxLen) (hc' : m ≤ c' ∧ c' ≤ maxLen) (h1 : (A, (nums9 0 n).map (Value.int .i64)) ∈ Z) (h2 : (A', (nums9 10 m).map (Value.int .i64)) ∈ Z) (hb : (some (⟨g0, 0, none⟩ : Addr), (bxf a ba bn).toList) ∈ Z) (hba : (some (⟨ba, 0, none⟩ : Addr), [Value.pointer (some ⟨a, 0, none⟩)]) ∈ Z) (hbn : (some (⟨bn, 0, none⟩ : Addr), [Value.int .i64 ((20 : Nat) : Int)]) ∈ Z) :
    Calls Try.prog 16 #[.agg (bxf a ba bn), .slice A n c, .nilFunc] wr fun e w1 => ∃ f1 c1, e = .returned (cv n f1 c1) ∧ Hid (Seven a ba bn g0 w1) ∧
      Hid (Calls Try.prog 15 #[.agg (bxf a ba bn), .int .i64 1, .pointer (some ⟨ob, 0, none⟩)] w1 fun e w2 => ∃ f2 c2, e = .returned (.func (.func f2) #[] c2) ∧ Hid (Seven a ba bn g0 w2) ∧
        Hid (Calls Try.prog 16 #[.agg (bxf a ba bn), .slice A' m c', .nilFunc] w2 fun e w3 => ∃ f3 c3, e = .returned (cv m f3 c3) ∧ Hid (Seven a ba bn g0 w3) ∧
          Hid (Calls Try.prog 15 #[.agg (bxf a ba bn), .int .i64 2, .pointer (some ⟨ob, 0, none⟩)] w3 fun e w4 => ∃ f4 c4, e = .returned (.func (.func f4) #[] c4) ∧ Hid (Seven a ba bn g0 w4) ∧
            Hid (Grp (S9 a b (20 : Nat) none) B (400 * 4) (2 * (400 * 4)) (mk a b (20 : Nat) none [] τ) [] [ob] [(kdr 0 2, .func (.func f4) #[] c4), (kput false (nums9 10 m), cv m f3 c3), (kdr 0 1, .func (.func f2) #[] c2), (kput false (nums9 0 n), cv n f1 c1)] Z (fun _ => False) w0 w4)))) := by
  have ml : maxLen ≤ 9223372036854775807 := by unfold maxLen; omega
  refine (Grp.puts9 (N := n) (c := c) (ba := ba) (bn := bn) (l := nums9 0 n) h (Lib.hid (nums9_len _ _).symm) hc.1 (by omega) (by omega) (by omega) h1 hba hbn (fun t ht => by have := nums9_mem ht; omega)).mono ?_
  rintro e w1 ⟨v1, rfl, hf1, hg1, _⟩
  obtain ⟨f1, c1, rfl⟩ := Grp.cv (b := 0) hg1.out
  refine ⟨f1, c1, rfl, Grp.seven hg1.out hb, ?_⟩
  refine (Grp.drains9 (o := 0) (k := 1) (ba := ba) (bn := bn) hg1.out rfl (by omega)).mono ?_
  rintro e w2 ⟨v2, rfl, _, hg2, _⟩
  obtain ⟨f2, c2, rfl⟩ := Grp.live hg2.out List.mem_cons_self rfl
  refine ⟨f2, c2, rfl, Grp.seven hg2.out hb, ?_⟩
  refine (Grp.puts9 (N := m) (c := c') (ba := ba) (bn := bn) (l := nums9 10 m) hg2.out (Lib.hid (nums9_len _ _).symm) hc'.1 (by omega) (by omega) (by omega) h2 hba hbn (fun t ht => by have := nums9_mem ht; omega)).mono ?_
  rintro e w3 ⟨v3, rfl, hf3, hg3, _⟩
  obtain ⟨f3, c3, rfl⟩ := Grp.cv (b := 10) hg3.out
  refine ⟨f3, c3, rfl, Grp.seven hg3.out hb, ?_⟩
  refine (Grp.drains9 (o := 0) (k := 2) (ba := ba) (bn := bn) hg3.out rfl (by omega)).mono ?_
  rintro e w4 ⟨v4, rfl, _, hg4, _⟩
  obtain ⟨f4, c4, rfl⟩ := Grp.live hg4.out List.mem_cons_self rfl
  exact ⟨f4, c4, rfl, Grp.seven hg4.out hb, hg4.out⟩
/-- The four codes' rounds. -/
theorem again_rounds {a b B ob n m : Nat} {τ : St R9} {Z : List (Option Addr × List Value)} {w0 w9 : World} {v1 v2 v3 v4 : Value} {T : TypeId} (hg : Grp (S9 a b (20 : Nat) none) B (400 * 4) (2 * (400 * 4)) (mk a b (20 : Nat) none [] τ) [] [ob] [(kdr 0 2, v4), (kput false (nums9 10 m), v3), (kdr 0 1, v2), (kput false (nums9 0 n), v1)] Z (fun _ => False) w0 w9) (hx : τ.xs = List.replicate (2 + 2 * 20) 0) (hr : τ.r = ⟨[([], [])], []⟩) (hn : n < 10) (hm : m < 10) :
    ∃ C Z', Hid (Rounds a b 20 B 400 4 ob (cs1 n m) C Z' (fun _ => False) w0 (bls1 n m) 0 (w9.alloc (.cells #[v1, v2, v3, v4] T))) ∧ (∀ z ∈ Z, z ∈ Z') ∧ Hid (∀ (j : Nat) (wr : World), j < 4 → Rounds a b 20 B 400 4 ob (cs1 n m) C Z' (fun _ => False) w0 (bls1 n m) j wr → ∃ v, wr.cell? ⟨w9.heap.size, j, none⟩ = some v ∧ Hid (Calls Try.prog 14 #[v] wr fun e w1 => ∃ tb, e = .returned (.pointer (some ⟨tb, 0, none⟩)) ∧ Hid (Calls Try.prog 18 #[.pointer (some ⟨tb, 0, none⟩), .int .i64 400] w1 fun e w2 => e = .returned (.bool true) ∧ Hid (Rounds a b 20 B 400 4 ob (cs1 n m) C Z' (fun _ => False) w0 (bls1 n m) (j + 1) w2)))) := by
  have hg5 := hg.box (w' := w9.alloc (.cells #[v1, v2, v3, v4] T)) ((Made.refl w9).alloc (Nat.le_refl _) _) (Nat.le_refl _) (heap_alloc_new _ _)
  refine ⟨_, _, ⟨⟨[], τ, hg5, by rw [hx]; exact Two.empty 20 (by omega), hr⟩⟩, fun z hz => List.mem_cons_of_mem _ hz, fun j wr hj h => ?_⟩
  obtain ⟨ts, τ, hg, _, _⟩ := h.ex
  obtain ⟨q1, q2, q3⟩ := rounds1 hn hm j hj
  obtain rfl | rfl | rfl | rfl : j = 0 ∨ j = 1 ∨ j = 2 ∨ j = 3 := by omega
  · exact ⟨v1, hg.lie0 (g := w9.heap.size) (vs := (#[v1, v2, v3, v4] : Array Value).toList) List.mem_cons_self rfl, h.step (most := 400) hj (List.mem_cons_of_mem _ (List.mem_cons_of_mem _ (List.mem_cons_of_mem _ List.mem_cons_self))) q1 q2 q3 (Nat.le_refl _)⟩
  · exact ⟨v2, hg.lie0 (g := w9.heap.size) (vs := (#[v1, v2, v3, v4] : Array Value).toList) List.mem_cons_self rfl, h.step (most := 400) hj (List.mem_cons_of_mem _ (List.mem_cons_of_mem _ List.mem_cons_self)) q1 q2 q3 (Nat.le_refl _)⟩
  · exact ⟨v3, hg.lie0 (g := w9.heap.size) (vs := (#[v1, v2, v3, v4] : Array Value).toList) List.mem_cons_self rfl, h.step (most := 400) hj (List.mem_cons_of_mem _ List.mem_cons_self) q1 q2 q3 (Nat.le_refl _)⟩
  · exact ⟨v4, hg.lie0 (g := w9.heap.size) (vs := (#[v1, v2, v3, v4] : Array Value).toList) List.mem_cons_self rfl, h.step (most := 400) hj List.mem_cons_self q1 q2 q3 (Nat.le_refl _)⟩
/-- What they come to. -/
theorem again_end {a b ba bn g0 ob n m : Nat} {cs : Nat → K9} {C : List (K9 × Value)} {Z : List (Option Addr × List Value)} {w0 wr : World} (h : Rounds a b 20 w0.heap.size 400 4 ob cs C Z (fun _ => False) w0 (bls1 n m) 4 wr) (hz : (some (⟨g0, 0, none⟩ : Addr), (bxf a ba bn).toList) ∈ Z) (hn : n < 10) (hm : m < 10) :
    ∃ A c A' c', wr.cell? ⟨ob, 1, none⟩ = some (.slice A' 3 c') ∧ ∀ o, Hid (Calls Try.prog 22 #[.slice A' 3 c', .slice (some ⟨wr.heap.size, 0, none⟩) 3 3] (wr.alloc (.cells #[.int .i64 (n : Int), .int .i64 ((n : Int) + (m : Int)), .int .i64 ((n : Int) + (m : Int))] o)) fun e w9 => e = .returned (.bool true) ∧ w9.cell? ⟨ob, 0, none⟩ = some (.slice A (n + m) c) ∧ Seven a ba bn g0 w9 ∧
      Hid (Calls Try.prog 24 #[.agg (bxf a ba bn)] w9 fun e w2 => ∃ A2 c2, e = .returned (.slice A2 0 c2) ∧ Made w0 w2)) := by
  obtain ⟨ts, τ, hg, T, hr⟩ := h.ex
  have hlen : ((nums9 0 n).reverse ++ (nums9 10 m).reverse).length = n + m := by simp [nums9_len]
  have hy : τ.r.own[0]? = some ((nums9 0 n).reverse ++ (nums9 10 m).reverse, [(n : Int), (n + m : Nat), (n + m : Nat)]) := by rw [hr]; rfl
  obtain ⟨A, cg, A', cg', q1, q2, q3, q4⟩ := Grp.got9 (o := 0) (g := ob) hg rfl hy
  rw [hlen] at q1
  refine ⟨A, cg, A', cg', q2, fun o => ?_⟩
  have hm1 : Made wr (wr.alloc (.cells #[.int .i64 (n : Int), .int .i64 ((n : Int) + (m : Int)), .int .i64 ((n : Int) + (m : Int))] o)) := (Made.refl _).alloc (Nat.le_refl _) _
  refine (Same_c [(n : Int), (n + m : Nat), (n + m : Nat)] A' (some ⟨wr.heap.size, 0, none⟩) 3 cg' 3 rfl _ (own_lt (xs := [(n : Int), (n + m : Nat), (n + m : Nat)]) q4) (fun k hk => ⟨_, rfl, by
          have e : (⟨wr.heap.size, 0, none⟩ : Addr).add k = ⟨wr.heap.size, k, none⟩ := by unfold Addr.add; split <;> simp_all
          rw [e, cell_of_row _ _ _ _ _ _ (heap_alloc_new _ _)]
          match k, hk with
          | 0, _ => rfl
          | 1, _ => rfl
          | 2, _ => rfl⟩) (by omega)).mono ?_
  rintro e w9 ⟨rfl, hm9⟩
  have hmm := Made.trans hm1 hm9
  have hg9 := hg.later hmm
  refine ⟨rfl, ?_, Grp.seven hg9 hz, ?_⟩
  · exact (hmm.cell (Go.block_lt_of_cell q1)).trans q1
  · obtain ⟨ha, hw, hl, _⟩ := hg9.ar
    refine (BoxList_c (nn := 20) (s := []) ha hw T.bx T.len T.few (by simp)).mono ?_
    rintro e w2 ⟨A2, c2, rfl, _, hm2⟩
    exact ⟨A2, c2, rfl, Made.trans hg9.bel hm2⟩
set_option maxRecDepth 100000 in
set_option maxHeartbeats 4000000 in
theorem again_c (N M : Nat) (hN : N < 256) (hM : M < 256) (w : World) : Calls Try.prog 6 #[.int .u8 (N : Int), .int .u8 (M : Int)] w fun e w' => e = .returned (.bool true) ∧ Made w w' := by
  have HFR := fun w => Lib.hid (fresh_c 20 (by omega) w)
  have HE := Lib.hid elem_int9
  obtain ⟨n, hn⟩ : ∃ n, n = N % 10 := ⟨_, rfl⟩
  obtain ⟨m, hm⟩ : ∃ m, m = M % 10 := ⟨_, rfl⟩
  have hn10 : n < 10 := by omega
  have hm10 : m < 10 := by omega
  have e1 : (N : Int) % 10 = (n : Int) := by omega
  have e2 : (M : Int) % 10 = (m : Int) := by omega
  have e3 : (N : Int).tmod 10 = (n : Int) := by rw [Int.tmod_eq_emod_of_nonneg (by omega)]; omega
  have e4 : (M : Int).tmod 10 = (m : Int) := by rw [Int.tmod_eq_emod_of_nonneg (by omega)]; omega
  have E1 := Lib.hid (And.intro e1 (And.intro e2 (And.intro e3 e4)))
  clear e1 e2 e3 e4 hn hm
  go_enter Try.func6, Try.ntmps6
  go_wp2_with fail
  refine (speaks_c _).mono ?_
  rintro e w0 ⟨rfl, hm0⟩
  have HM0 := Lib.hid hm0
  clear hm0
  go_wp2_with fail
  refine (HFR _).out.mono ?_
  rintro e w1 ⟨a, b, ba, bn, rfl, hA, l1, l2, l3, l4, n1, n2, n3, n4, hba, hbn, hm1⟩
  have hl0 := HM0.out.size
  have h0 := Grp.begin9 (B := w.heap.size) (w0 := w) (m := 400 * 4) (n := 2 * (400 * 4)) hA (by omega) (by omega) (by omega) (by omega) n1 n2 n3 n4 hba hbn (Made.trans HM0.out hm1) (Made.trans HM0.out hm1).size
  have h1 := h0.box (w' := w1.alloc (.cells (bxf a ba bn) 31)) ((Made.refl w1).alloc (Nat.le_refl _) _) (Nat.le_refl _) (heap_alloc_new _ _)
  obtain ⟨g0, hg0⟩ : ∃ g0, g0 = w1.heap.size := ⟨_, rfl⟩
  obtain ⟨W2, hW2⟩ : ∃ W2, W2 = w1.alloc (.cells (bxf a ba bn) 31) := ⟨_, rfl⟩
  rw [← hW2, ← hg0] at h1
  have HG1 := Lib.hid h1
  have HW2 := Lib.hid hW2
  have HGG := Lib.hid hg0
  clear hA l1 l2 l3 l4 n1 n2 n3 n4 hba hbn hm1 h0 h1 HFR hW2 HM0 hl0 hg0
  go_wp2_with fail
  rw [← HW2.out]
  try rw [E1.out.1]
  try rw [E1.out.2.1]
  try rw [E1.out.2.2.1]
  try rw [E1.out.2.2.2]
  clear HW2
  rw [← HGG.out]
  clear HGG
  have i10 : (n : Int) < 10 := by omega
  have m10 : (m : Int) < 10 := by omega
  have i0 : (0 : Int) ≤ (n : Int) := by omega
  have m0 : (0 : Int) ≤ (m : Int) := by omega
  go_loopw [9, 32] (fun v i wr => ∃ (k : Nat) (A : Option Addr) (c : Nat), v = .slice A k c ∧ i = .int .i64 (k : Int) ∧ k ≤ n ∧ Hid (Grw W2 wr A c k (nums9 0 k))) (fun _ i _ => (n - intOf i).toNat)
  case atStart => exact ⟨0, none, 0, rfl, rfl, by omega, Grw.start W2⟩
  case round =>
    obtain ⟨k, A, c, rfl, rfl, hk, HK⟩ := hrel
    by_cases hkn : k < n
    · have k1 : (k : Int) < (n : Int) := by omega
      have k2 : (k : Int) < 10 := by omega
      have k0 : (0 : Int) ≤ (k : Int) := by omega
      have hsz := HK.out.bel.size
      go_wp2_with (at_builtin; (refine wpList_app _ rfl (.tmp 35) (.tmp 37) 23 rfl W2.heap.size 3 (.int .i64 0) 8 HE.out (.slice A k c) k ((nums9 0 k).map (.int .i64)) (by simp [Act.eval, Act.put]) (World.ownsRow.alloc HK.out.row _) (some ⟨wr.heap.size, 0, none⟩) 1 1 [.int .i64 (k : Int)] (by simp [Act.eval, Act.put]) (Reads.row (cs := #[.int .i64 (k : Int)]) (heap_alloc_new wr _) rfl) (by simp [Value.oneCell']) (by unfold maxLen; omega) (by omega) (by simp only [World.size_alloc]; omega) ?_; intro A5 c5 w5 hown hgrow _; have HK5 := Lib.hid (HK.out.app hown hgrow); clear hown hgrow))
      go_roundw
      case rel => exact ⟨k + 1, A5, c5, rfl, by first | rfl | go_num | (congr 1; omega), by omega, by have h := HK5.out; rw [show nums9 0 (k + 1) = nums9 0 k ++ [(k : Int)] by rw [nums9_succ]; simp]; exact h⟩
      case measure => simp [intOf]; omega
    · obtain rfl : n = k := by omega
      clear hkn hk
      obtain ⟨A1, c1, he, -, hc1, hc2, hg3⟩ := Grp.note HG1.out (w' := wr) HK.out.bel HK.out.row
      simp only [Value.slice.injEq] at he
      obtain ⟨rfl, -, rfl⟩ := he
      have HG3 := Lib.hid hg3
      have HC1 := Lib.hid (And.intro hc1 hc2)
      clear hg3 hc1 hc2 HK HG1
      generalize wr = W3 at *
      go_wp2_with fail
      try rw [E1.out.1]
      try rw [E1.out.2.1]
      go_loopw [10, 41] (fun v i wr => ∃ (k : Nat) (A' : Option Addr) (c' : Nat), v = .slice A' k c' ∧ i = .int .i64 (k : Int) ∧ k ≤ m ∧ Hid (Grw W3 wr A' c' k (nums9 10 k))) (fun _ i _ => (m - intOf i).toNat)
      case atStart => exact ⟨0, none, 0, rfl, rfl, by omega, Grw.start W3⟩
      case round =>
        obtain ⟨k, A', c', rfl, rfl, hk, HK⟩ := hrel
        by_cases hkn : k < m
        · have k1 : (k : Int) < (m : Int) := by omega
          have k2 : (k : Int) < 10 := by omega
          have k0 : (0 : Int) ≤ (k : Int) := by omega
          have hsz := HK.out.bel.size
          go_wp2_with (at_builtin; (refine wpList_app _ rfl (.tmp 44) (.tmp 47) 23 rfl W3.heap.size 3 (.int .i64 0) 8 HE.out (.slice A' k c') k ((nums9 10 k).map (.int .i64)) (by simp [Act.eval, Act.put]) (World.ownsRow.alloc HK.out.row _) (some ⟨wr.heap.size, 0, none⟩) 1 1 [.int .i64 (10 + (k : Int))] (by simp [Act.eval, Act.put]) (Reads.row (cs := #[.int .i64 (10 + (k : Int))]) (heap_alloc_new wr _) rfl) (by simp [Value.oneCell']) (by unfold maxLen; omega) (by omega) (by simp only [World.size_alloc]; omega) ?_; intro A5 c5 w5 hown hgrow _; have HK5 := Lib.hid (HK.out.app hown hgrow); clear hown hgrow))
          go_roundw
          case rel => exact ⟨k + 1, A5, c5, rfl, by first | rfl | go_num | (congr 1; omega), by omega, by have h := HK5.out; rw [show nums9 10 (k + 1) = nums9 10 k ++ [10 + (k : Int)] by rw [nums9_succ]]; exact h⟩
          case measure => simp [intOf]; omega
        · obtain rfl : m = k := by omega
          clear hkn hk
          obtain ⟨A2, c2', he, -, hc1, hc2, hg4⟩ := Grp.note HG3.out (w' := wr) HK.out.bel HK.out.row
          simp only [Value.slice.injEq] at he
          obtain ⟨rfl, -, rfl⟩ := he
          have hg5 := (Grp.owner9 hg4 (w' := wr.alloc (.cells #[.slice none 0 0, .slice none 0 0] 36)) ((Made.refl _).alloc (Nat.le_refl _) _) (Nat.le_refl _) (heap_alloc_new _ _)).1
          obtain ⟨ob, hob⟩ : ∃ ob, ob = wr.heap.size := ⟨_, rfl⟩
          obtain ⟨W5, hW5⟩ : ∃ W5, W5 = wr.alloc (.cells #[.slice none 0 0, .slice none 0 0] 36) := ⟨_, rfl⟩
          rw [← hW5, ← hob] at hg5
          have HCD := Lib.hid (codes_c (ba := ba) (bn := bn) (g0 := g0) (ob := ob) (hg5.later (Made.drewN W5 1)) hn10 hm10 HC1.out ⟨hc1, hc2⟩ (List.mem_cons_of_mem _ List.mem_cons_self) List.mem_cons_self (by simp) (by simp) (by simp))
          have hs5 := Grp.seven (a := a) (ba := ba) (bn := bn) (g := g0) hg5 (by simp)
          obtain ⟨d0, d1, d2, d3, d4, d5, d6⟩ := hs5
          have HW5 := Lib.hid (And.intro hW5 hob)
          clear hg4 hg5 hc1 hc2 HK HG3 HC1 hW5 hob
          go_wp2_with fail
          rw [← HW5.out.1, ← HW5.out.2]
          clear HW5
          unfold bxf at HCD
          rcases cv_or n with hn0 | hn0
          all_goals rcases cv_or m with hm0 | hm0
          all_goals
            simp only [hn0, hm0] at HCD
            go_region_held3 (fun w1 => w1.cell? ⟨g0, 0, none⟩ = some (.pointer (some ⟨a, 0, none⟩)) ∧ w1.cell? ⟨g0, 1, none⟩ = some (.int .i64 0) ∧ w1.cell? ⟨g0, 2, none⟩ = some (.func (.func 40) #[] #[]) ∧ w1.cell? ⟨g0, 3, none⟩ = some (.func (.func 41) #[] #[.pointer (some ⟨ba, 0, none⟩), .pointer (some ⟨bn, 0, none⟩)]) ∧ w1.cell? ⟨g0, 4, none⟩ = some (.pointer (some ⟨a, 0, none⟩)) ∧ w1.cell? ⟨g0, 5, none⟩ = some (.int .i64 1) ∧ w1.cell? ⟨g0, 6, none⟩ = some (.func (.func 40) #[] #[])) (first | (refine ⟨?_, ?_, ?_, ?_, ?_, ?_, ?_⟩ <;> first | assumption | simpa using d0 | simpa using d1 | simpa using d2 | simpa using d3 | simpa using d4 | simpa using d5 | simpa using d6 | (exact cell_made (by assumption)))) (first | (go_at_call 16; refine HCD.out.mono ?_; rintro e w6 ⟨f1, c1, rfl, HS1, HD1⟩; obtain ⟨x0, x1, x2, x3, x4, x5, x6⟩ := HS1.out; clear HCD HS1) | (go_at_call 15; refine HD1.out.mono ?_; rintro e w7 ⟨f2, c2, rfl, HS2, HD2⟩; obtain ⟨y0, y1, y2, y3, y4, y5, y6⟩ := HS2.out; clear HD1 HS2) | (go_at_call 16; refine HD2.out.mono ?_; rintro e w8 ⟨f3, c3, rfl, HS3, HD3⟩; obtain ⟨z0, z1, z2, z3, z4, z5, z6⟩ := HS3.out; clear HD2 HS3) | (go_at_call 15; refine HD3.out.mono ?_; rintro e w9 ⟨f4, c4, rfl, HS4, HG9⟩; obtain ⟨k0, k1, k2, k3, k4, k5, k6⟩ := HS4.out))
          all_goals
            obtain ⟨CC, ZZ, HR5, hZZ, HST⟩ := again_rounds (T := 40) HG9.out rfl rfl hn10 hm10
            have HBX : Hid ((some (⟨g0, 0, none⟩ : Addr), (bxf a ba bn).toList) ∈ ZZ) := hZZ _ (by simp)
            clear hZZ HG9 x0 x1 x2 x3 x4 x5 x6 y0 y1 y2 y3 y4 y5 y6 z0 z1 z2 z3 z4 z5 z6 d0 d1 d2 d3 d4 d5 d6 k0 k1 k2 k3 k4 k5 k6 HS4 HD3
            generalize w9.heap.size = gc at *
            go_wp2_with fail
            go_loopw [66] (fun i wr => ∃ j : Nat, i = .int .i64 j ∧ j ≤ 4 ∧ Hid (Rounds a b 20 w.heap.size 400 4 ob (cs1 n m) CC ZZ (fun _ => False) w (bls1 n m) j wr)) (fun i _ => (4 - intOf i).toNat)
            case atStart => exact ⟨0, rfl, by omega, HR5.out⟩
            case round =>
              obtain ⟨j, rfl, hj, HR⟩ := hrel
              by_cases hj4 : j < 4
              · obtain ⟨v, hc, HN⟩ := HST.out j wr hj4 HR.out
                have hk0 : (0 : Int) ≤ (j : Int) := by omega
                have hk1 : (j : Int) < 4 := by omega
                clear HST HR HR5 HBX
                go_wp2_with fail
                refine HN.out.mono ?_
                rintro e w6 ⟨tb, rfl, HF⟩
                clear HN hc
                go_wp2_with fail
                refine HF.out.mono ?_
                rintro e w7 ⟨rfl, HR7⟩
                clear HF
                go_wp2_with fail
                go_roundw
                case rel => exact ⟨j + 1, by first | rfl | go_num | (congr 1; omega), by omega, HR7⟩
                case measure => simp [intOf]; omega
              · obtain rfl : j = 4 := by omega
                obtain ⟨A3, c3, A4, c4, cE, HSA⟩ := again_end HR.out HBX.out hn10 hm10
                have HSB : Hid (∀ o, Hid (Calls Try.prog 22 #[.slice A4 3 c4, .slice (some ⟨wr.heap.size, 0, none⟩) 3 3] (wr.alloc (.cells #[.int .i64 (n : Int), .int .i64 ((n : Int) + (m : Int)), .int .i64 ((n : Int) + (m : Int))] o)) fun e w9 => e = .returned (.bool true) ∧ w9.cell? ⟨ob, 0, none⟩ = some (.slice A3 (n + m) c3) ∧ Seven a ba bn g0 w9 ∧
      Hid (Calls Try.prog 24 #[.agg (bxf a ba bn)] w9 fun e w2 => ∃ A2 c2, e = .returned (.slice A2 0 c2) ∧ Made w w2))) := HSA
                clear HSA HST HR HR5 HBX hj4 hj
                go_wp2_with fail
                refine ((HSB.out _).out).mono ?_
                rintro e w9 ⟨rfl, cG, HS9, HBL⟩
                obtain ⟨s0, s1, s2, s3, s4, s5, s6⟩ := HS9
                unfold bxf at HBL
                clear HSB cE
                go_wp2_with fail
                refine HBL.out.mono ?_
                rintro e w10 ⟨A2, c2, rfl, hmF⟩
                have HMF := Lib.hid hmF
                clear hmF HBL
                go_wp2_with fail
                go_ret
                exact ⟨rfl, HMF.out⟩
theorem u8_of9 {a : Int} (h : (Lit.int .u8 a).wf = true) : ∃ n : Nat, a = (n : Int) ∧ n < 256 := by
  simp [Lit.wf, IntKind.min, IntKind.max, IntKind.signed, IntKind.bits] at h
  exact ⟨a.toNat, by omega, by omega⟩
theorem again (a0 a1 : Int) (w : World) (h0 : (Lit.int .u8 a0).wf = true) (h1 : (Lit.int .u8 a1).wf = true) : Calls Try.prog 6 #[.int .u8 a0, .int .u8 a1] w fun e w' => e = .returned (.bool true) ∧ Made w w' := by
  obtain ⟨N, rfl, hN⟩ := u8_of9 h0
  obtain ⟨M, rfl, hM⟩ := u8_of9 h1
  exact again_c N M hN hM w
end Go.Proofs.Ytndpkonihcebeaa.Kod.Nine
