/- Package knelllaw02, walked: speaks, CellOne. -/
import Derived.Test.YtnkcekgjppkbpaaCell
import Derived.Test.YtnkcekgjppkbpaaOpenS
namespace Go.Proofs.Ytnkcekgjppkbpaa.Law2
open Go.RowKit Go.Proofs.Ytnkcekgjppkbpaa Go.Proofs.Ytnkcekgjppkbpaa.Cell
set_option linter.unusedVariables false
set_option linter.unusedSimpArgs false

theorem size_of_arena {w : World} {a b : Nat} {c : Int} {xs : List Int} (h : Arena w a b c xs) : a < w.heap.size ∧ b < w.heap.size :=
  ⟨(Array.getElem?_eq_some_iff.1 h.ha).1, (Array.getElem?_eq_some_iff.1 h.hb).1⟩

set_option maxRecDepth 100000 in
set_option maxHeartbeats 1000000 in
theorem speaks_c (w : World) : Calls Try.prog 24 #[] w fun e w' => e = .returned (.bool true) ∧ Made w w' := by
  go_enter Try.func24, Try.ntmps24
  go_wp2_with fail
  refine (New_yes 1 (by omega) (by omega) _).mono ?_
  rintro e w1 ⟨rfl, h1, hs1, hm1⟩
  go_wp2_with fail
  refine (Cas_hit h1 (by omega) 0 0 5 (by simp) (by simp)).mono ?_
  rintro e w2 ⟨rfl, h2, ht2⟩
  go_wp2_with fail
  refine (Cas_miss h2 (by omega) 0 0 5 (by simp) (by simp)).mono ?_
  rintro e w3 ⟨rfl, h3, ht3⟩
  go_wp2_with fail
  refine (Load_yes h3 (by omega) 0 (by simp)).mono ?_
  rintro e w4 ⟨rfl, h4, ht4⟩
  go_wp2_with fail
  go_ret
  exact ⟨rfl, Below.trans hm1 (((ht2.trans ht3).trans ht4).below (by omega) (by omega))⟩

theorem cell_later {w w' : World} (h : Made w w') {a : Addr} {v : Value} (hc : w.cell? a = some v) : w'.cell? a = some v := by
  have hb : a.block < w.heap.size := by
    rcases Nat.lt_or_ge a.block w.heap.size with h' | h'
    · exact h'
    · unfold World.cell? at hc
      rw [Array.getElem?_eq_none h'] at hc
      cases hc
  unfold World.cell? at hc ⊢
  rw [h.block _ hb]
  exact hc

theorem load1 {w : World} {a b : Nat} {c x : Int} (h : Arena w a b c [x]) (h1 : c + 1 < 4611686018427387904) :
    Calls Try.prog 28 #[.pointer (some ⟨a, 0, none⟩), .int .i64 0] w fun e w' => e = .returned (.int .u64 x) ∧ Arena w' a b (c + 1) [x] ∧ Turned a b w w' := Load_yes h h1 0 (by simp)
theorem swap1 {w : World} {a b : Nat} {c x : Int} (v : Int) (h : Arena w a b c [x]) (h1 : c + 1 < 4611686018427387904) :
    Calls Try.prog 26 #[.pointer (some ⟨a, 0, none⟩), .int .i64 0, .int .u64 v] w fun e w' => e = .returned (.int .u64 x) ∧ Arena w' a b (c + 1) [v] ∧ Turned a b w w' := Swap_yes h h1 0 v (by simp)
theorem hit1 {w : World} {a b : Nat} {c x : Int} (v : Int) (h : Arena w a b c [x]) (h1 : c + 1 < 4611686018427387904) :
    Calls Try.prog 27 #[.pointer (some ⟨a, 0, none⟩), .int .i64 0, .int .u64 x, .int .u64 v] w fun e w' => e = .returned (.bool true) ∧ Arena w' a b (c + 1) [v] ∧ Turned a b w w' := Cas_hit h h1 0 x v (by simp) (by simp)
theorem miss1 {w : World} {a b : Nat} {c x : Int} (o v : Int) (h : Arena w a b c [x]) (h1 : c + 1 < 4611686018427387904) (ho : ¬ x = o) :
    Calls Try.prog 27 #[.pointer (some ⟨a, 0, none⟩), .int .i64 0, .int .u64 o, .int .u64 v] w fun e w' => e = .returned (.bool false) ∧ Arena w' a b (c + 1) [x] ∧ Turned a b w w' := Cas_miss h h1 0 o v (by simp) (by simpa using ho)

set_option maxRecDepth 100000 in
set_option maxHeartbeats 1000000 in
theorem one_some (first : Int) (a : Addr) (n cap : Nat) (xs : List Int) (hn : Hid (n = xs.length)) (hn80 : n ≤ 80) (w : World) (hc : Hid (∀ i (h : i < xs.length), w.cell? (a.add i) = some (.int .u64 xs[i]))) :
    Calls Try.prog 5 #[.int .u64 first, .slice (some a) n cap] w fun e w' => e = .returned (.bool true) ∧ Made w w' := by
  go_enter Try.func5, Try.ntmps5
  go_wp2_with fail
  refine (speaks_c _).mono ?_
  rintro e w0 ⟨rfl, hm0⟩
  go_wp2_with fail
  refine (New_yes 1 (by omega) (by omega) _).mono ?_
  rintro e w1 ⟨rfl, h1, hs1, hm1⟩
  go_wp2_with fail
  have h1' : Arena w1 (w0.heap.size + 1) w0.heap.size 0 [0] := h1
  have hB1 : w.heap.size ≤ w0.heap.size := hm0.size
  have hm : Made w w1 := Made.trans hm0 hm1
  clear h1 hs1 hm1 hm0
  generalize hA : w0.heap.size + 1 = A at *
  have hA1 : w.heap.size ≤ A := by omega
  generalize w0.heap.size = B at *
  clear hA
  refine (swap1 first h1' (by omega)).mono ?_
  rintro e w2 ⟨rfl, h2, ht2⟩
  have hm2 : Made w w2 := Below.trans hm (ht2.below hA1 hB1)
  have HA := Lib.hid h2
  clear h2 ht2 h1' hm
  go_wp2_with fail
  go_loopw [7, 8, 36] (fun d x i wr => ∃ (k : Nat) (now : Int) (dn : Bool) (c : Int), k ≤ n ∧ d = .bool dn ∧ x = .int .u64 now ∧ i = .int .i64 k ∧ c ≤ 1 + 2 * k ∧ Hid (Arena wr A B c [now]) ∧ Made w wr) (fun _ _ i _ => (n - intOf i).toNat)
  case atStart => exact ⟨0, first, false, 1, by omega, rfl, rfl, rfl, by omega, HA, hm2⟩
  case round =>
    obtain ⟨k, now, dn, c, hk, rfl, rfl, rfl, hcc, HAr, hmr⟩ := hrel
    clear HA hm2
    by_cases hkn : k < n
    · have hkl : k < xs.length := by have := hn.out; omega
      have c1 := cell_later hmr (hc.out k hkl)
      generalize xs[k] = v at c1
      have i0 : 0 ≤ (k : Int) := by omega
      have i1 : (k : Int) < (n : Int) := by omega
      by_cases hnow : now = first
      · subst hnow
        cases dn
        all_goals
          go_wp2_with fail
          refine (hit1 v HAr.out (by omega)).mono ?_
          rintro e w3 ⟨rfl, h3, ht3⟩
          go_wp2_with fail
          refine (load1 h3 (by omega)).mono ?_
          rintro e w4 ⟨rfl, h4, ht4⟩
          go_wp2_with fail
          go_roundw
          case rel => exact ⟨k + 1, v, true, c + 1 + 1, by omega, rfl, rfl, by go_num, by omega, h4, Below.trans hmr ((ht3.trans ht4).below hA1 hB1)⟩
          case measure => simp [intOf]; omega
      · cases dn
        · go_wp2_with fail
          refine (miss1 first v HAr.out (by omega) hnow).mono ?_
          rintro e w3 ⟨rfl, h3, ht3⟩
          go_wp2_with fail
          refine (load1 h3 (by omega)).mono ?_
          rintro e w4 ⟨rfl, h4, ht4⟩
          go_wp2_with fail
          go_roundw
          case rel => exact ⟨k + 1, now, false, c + 1 + 1, by omega, rfl, rfl, by go_num, by omega, h4, Below.trans hmr ((ht3.trans ht4).below hA1 hB1)⟩
          case measure => simp [intOf]; omega
        · go_wp2_with fail
          refine (miss1 first v HAr.out (by omega) hnow).mono ?_
          rintro e w3 ⟨rfl, h3, ht3⟩
          go_wp2_with fail
          refine (load1 h3 (by omega)).mono ?_
          rintro e w4 ⟨rfl, h4, ht4⟩
          go_wp2_with fail
          go_roundw
          case rel => exact ⟨k + 1, now, true, c + 1 + 1, by omega, rfl, rfl, by go_num, by omega, h4, Below.trans hmr ((ht3.trans ht4).below hA1 hB1)⟩
          case measure => simp [intOf]; omega
    · obtain rfl : k = n := by omega
      go_wp2_with fail
      refine (swap1 1 HAr.out (by omega)).mono ?_
      rintro e w3 ⟨rfl, h3, ht3⟩
      go_wp2_with fail
      refine (load1 h3 (by omega)).mono ?_
      rintro e w4 ⟨rfl, h4, ht4⟩
      go_wp2_with fail
      go_ret
      exact ⟨rfl, Below.trans hmr ((ht3.trans ht4).below hA1 hB1)⟩

set_option maxRecDepth 100000 in
set_option maxHeartbeats 1000000 in
theorem one_none (first : Int) (w : World) :
    Calls Try.prog 5 #[.int .u64 first, .slice none 0 0] w fun e w' => e = .returned (.bool true) ∧ Made w w' := by
  go_enter Try.func5, Try.ntmps5
  go_wp2_with fail
  refine (speaks_c _).mono ?_
  rintro e w0 ⟨rfl, hm0⟩
  go_wp2_with fail
  refine (New_yes 1 (by omega) (by omega) _).mono ?_
  rintro e w1 ⟨rfl, h1, hs1, hm1⟩
  go_wp2_with fail
  have h1' : Arena w1 (w0.heap.size + 1) w0.heap.size 0 [0] := h1
  have hB1 : w.heap.size ≤ w0.heap.size := hm0.size
  have hm : Made w w1 := Made.trans hm0 hm1
  clear h1 hs1 hm1 hm0
  generalize hA : w0.heap.size + 1 = A at *
  have hA1 : w.heap.size ≤ A := by omega
  generalize w0.heap.size = B at *
  clear hA
  refine (swap1 first h1' (by omega)).mono ?_
  rintro e w2 ⟨rfl, h2, ht2⟩
  have hm2 : Made w w2 := Below.trans hm (ht2.below hA1 hB1)
  have HA := Lib.hid h2
  clear h2 ht2 h1' hm
  go_wp2_with fail
  go_loopw [7, 8, 36] (fun d x i wr => d = .bool false ∧ x = .int .u64 first ∧ i = .int .i64 0 ∧ Hid (Arena wr A B (0 + 1) [first]) ∧ Made w wr) (fun _ _ i _ => 0)
  case atStart => exact ⟨rfl, rfl, rfl, HA, hm2⟩
  case round =>
    obtain ⟨rfl, rfl, rfl, HAr, hmr⟩ := hrel
    clear HA hm2
    go_wp2_with fail
    refine (swap1 1 HAr.out (by omega)).mono ?_
    rintro e w3 ⟨rfl, h3, ht3⟩
    go_wp2_with fail
    refine (load1 h3 (by omega)).mono ?_
    rintro e w4 ⟨rfl, h4, ht4⟩
    go_wp2_with fail
    go_ret
    exact ⟨rfl, Below.trans hmr ((ht3.trans ht4).below hA1 hB1)⟩

set_option maxRecDepth 100000 in
set_option maxHeartbeats 1000000 in
theorem one_far (first : Int) (a : Addr) (n cap : Nat) (hn : 80 < n) (hn' : (n : Int) ≤ 9223372036854775807) (w : World) :
    Calls Try.prog 5 #[.int .u64 first, .slice (some a) n cap] w fun e w' => e = .returned (.bool true) ∧ Made w w' := by
  have hn1 : 80 < (n : Int) := by omega
  go_enter Try.func5, Try.ntmps5
  go_wp2_with fail
  refine (speaks_c _).mono ?_
  rintro e w0 ⟨rfl, hm0⟩
  go_wp2_with fail
  refine (speaks_c _).mono ?_
  rintro e w1 ⟨rfl, hm1⟩
  go_wp2_with fail
  go_ret
  exact ⟨rfl, Made.trans hm0 hm1⟩

theorem one (first : Int) (v : Value) (xs : List Int) (w : World) (_ : (Lit.int .u64 first).wf = true) (hv : SlK .u64 w v xs) (_ : ∀ z ∈ xs, (Lit.int .u64 z).wf = true) :
    Calls Try.prog 5 #[.int .u64 first, v] w fun e w' => e = .returned (.bool true) ∧ Made w w' := by
  rcases hv with ⟨rfl, rfl⟩ | ⟨a, cap, rfl, h1, h2, h3⟩
  · exact one_none first w
  · by_cases hn : xs.length ≤ 80
    · exact one_some first a xs.length cap xs rfl hn w h3
    · exact one_far first a xs.length cap (by omega) (by unfold maxLen at h2; omega) w
end Go.Proofs.Ytnkcekgjppkbpaa.Law2
