/- Package knelllaw02, walked: CellAdds. -/
import Derived.Test.YtnkcekgjppkbpaaLaw2
import Derived.Test.YtnkcekgjppkbpaaCell2
namespace Go.Proofs.Ytnkcekgjppkbpaa.Law2
open Go.RowKit Go.Proofs.Ytnkcekgjppkbpaa Go.Proofs.Ytnkcekgjppkbpaa.Cell
set_option linter.unusedVariables false
set_option linter.unusedSimpArgs false

/-- What a cell has when so many numbers were added. -/
def pre (first : Int) (xs : List Int) (k : Nat) : Int := (xs.take k).foldl (fun s v => IntKind.u64.wrap (s + v)) first
theorem pre_zero (first : Int) (xs : List Int) : pre first xs 0 = first := by simp [pre]
theorem pre_succ (first : Int) {xs : List Int} {k : Nat} (h : k < xs.length) : pre first xs (k + 1) = IntKind.u64.wrap (pre first xs k + xs[k]) := by
  have e : xs.take (k + 1) = xs.take k ++ [xs[k]] := by simp
  unfold pre
  rw [e, List.foldl_append]
  rfl
theorem pre_bd {first : Int} (h0 : 0 ≤ first) (h1 : first < 18446744073709551616) (xs : List Int) : ∀ k, k ≤ xs.length → 0 ≤ pre first xs k ∧ pre first xs k < 18446744073709551616
  | 0, _ => by rw [pre_zero]; exact ⟨h0, h1⟩
  | k + 1, h => by
    rw [pre_succ first (by omega), IntKind.wrap_u64]
    omega
theorem retb_of {a b : Bool} (h : a = b) : Ending.returned (.bool a) = .returned (.bool b) := by rw [h]
theorem off_int (x v : Int) (h0 : 0 ≤ x) (h1 : x < 18446744073709551616) : IntKind.u64.wrap (IntKind.u64.wrap (x + v) + IntKind.u64.wrap (-v)) = x := by
  simp only [IntKind.wrap_u64]; omega

theorem add2 {w : World} {a b : Nat} {c x : Int} (v y : Int) (h : Arena w a b c [0, x]) (h1 : c + 1 < 4611686018427387904) (hx : 0 ≤ x ∧ x < 18446744073709551616) (hy : IntKind.u64.wrap (x + v) = y) :
    Calls Try.prog 30 #[.pointer (some ⟨a, 0, none⟩), .int .i64 1, .int .u64 v] w fun e w' => e = .returned (.int .u64 x) ∧ Arena w' a b (c + 1) [0, y] ∧ Turned a b w w' := by
  subst hy
  exact Add_yes h h1 1 v (by simp) hx.1 hx.2
theorem load2 {w : World} {a b : Nat} {c x : Int} (h : Arena w a b c [0, x]) (h1 : c + 1 < 4611686018427387904) :
    Calls Try.prog 28 #[.pointer (some ⟨a, 0, none⟩), .int .i64 1] w fun e w' => e = .returned (.int .u64 x) ∧ Arena w' a b (c + 1) [0, x] ∧ Turned a b w w' := Load_yes h h1 1 (by simp)
theorem load20 {w : World} {a b : Nat} {c x : Int} (h : Arena w a b c [0, x]) (h1 : c + 1 < 4611686018427387904) :
    Calls Try.prog 28 #[.pointer (some ⟨a, 0, none⟩), .int .i64 0] w fun e w' => e = .returned (.int .u64 0) ∧ Arena w' a b (c + 1) [0, x] ∧ Turned a b w w' := Load_yes h h1 0 (by simp)

set_option maxRecDepth 100000 in
set_option maxHeartbeats 1000000 in
theorem adds_some (first : Int) (a : Addr) (n cap : Nat) (xs : List Int) (hf : Hid (0 ≤ first ∧ first < 18446744073709551616)) (hn : Hid (n = xs.length)) (hn80 : n ≤ 80) (w : World) (hc : Hid (∀ i (h : i < xs.length), w.cell? (a.add i) = some (.int .u64 xs[i]))) :
    Calls Try.prog 6 #[.int .u64 first, .slice (some a) n cap] w fun e w' => e = .returned (.bool true) ∧ Made w w' := by
  go_enter Try.func6, Try.ntmps6
  go_wp2_with fail
  refine (speaks_c _).mono ?_
  rintro e w0 ⟨rfl, hm0⟩
  go_wp2_with fail
  refine (New_yes 2 (by omega) (by omega) _).mono ?_
  rintro e w1 ⟨rfl, h1, hs1, hm1⟩
  go_wp2_with fail
  have h1' : Arena w1 (w0.heap.size + 1) w0.heap.size 0 [0, 0] := h1
  have hB1 : w.heap.size ≤ w0.heap.size := hm0.size
  have hm : Made w w1 := Made.trans hm0 hm1
  clear h1 hs1 hm1 hm0
  generalize hA : w0.heap.size + 1 = A at *
  have hA1 : w.heap.size ≤ A := by omega
  generalize w0.heap.size = B at *
  clear hA
  refine (Store_yes h1' (by omega) 1 first (by simp)).mono ?_
  rintro e w2 ⟨rfl, h2', ht2⟩
  have h2 : Arena w2 A B (0 + 1) [0, first] := h2'
  have hm2 : Made w w2 := Below.trans hm (ht2.below hA1 hB1)
  have HA := Lib.hid h2
  clear h2 h2' ht2 h1' hm
  go_wp2_with fail
  go_loopw [7, 38] (fun x i wr => ∃ (k : Nat) (sm : Int), k ≤ n ∧ x = .int .u64 sm ∧ i = .int .i64 k ∧ Hid (sm = pre first xs k) ∧ Hid (Arena wr A B (1 + k) [0, sm]) ∧ Made w wr) (fun _ i _ => (n - intOf i).toNat)
  case atStart => exact ⟨0, first, by omega, rfl, rfl, (pre_zero first xs).symm, HA, hm2⟩
  case round =>
    obtain ⟨k, sm, hk, rfl, rfl, HS, HAr, hmr⟩ := hrel
    clear HA hm2
    by_cases hkn : k < n
    · have hkl : k < xs.length := by have := hn.out; omega
      have c1 := cell_later hmr (hc.out k hkl)
      have hbd : 0 ≤ sm ∧ sm < 18446744073709551616 := by rw [HS.out]; exact pre_bd hf.out.1 hf.out.2 xs k (by omega)
      have hps := pre_succ first hkl
      rw [← HS.out] at hps
      generalize xs[k] = v at c1 hps
      have HS' := Lib.hid hps
      have hadd := Lib.hid (add2 v _ HAr.out (by omega) hbd rfl)
      have hbd' := Lib.hid hbd
      clear hps hbd
      have i0 : 0 ≤ (k : Int) := by omega
      have i1 : (k : Int) < (n : Int) := by omega
      go_wp2_with fail
      refine hadd.out.mono ?_
      rintro e w3 ⟨rfl, h3, ht3⟩
      have H3 := Lib.hid h3
      clear h3
      go_wp2_with fail
      go_roundw
      case rel => exact ⟨k + 1, _, by omega, rfl, by go_num, HS'.out.symm, (show Arena _ _ _ (1 + ((k + 1 : Nat) : Int)) _ by rw [show (1 : Int) + ((k + 1 : Nat) : Int) = 1 + (k : Int) + 1 by omega]; exact H3.out), Below.trans hmr (ht3.below hA1 hB1)⟩
      case measure => simp [intOf]; omega
    · obtain rfl : k = n := by omega
      go_wp2_with fail
      go_loopw [53] (fun i wr => ∃ (j : Nat) (x : Int), j ≤ k ∧ i = .int .i64 j ∧ Hid (x = pre first xs (k - j)) ∧ Hid (Arena wr A B (1 + k + j) [0, x]) ∧ Made w wr) (fun i _ => (k - intOf i).toNat)
      case atStart => exact ⟨0, sm, by omega, rfl, HS, (show Arena wr A B (1 + (k : Int) + ((0 : Nat) : Int)) [0, sm] by rw [show (1 : Int) + (k : Int) + ((0 : Nat) : Int) = 1 + (k : Int) by omega]; exact HAr.out), hmr⟩
      case round =>
        obtain ⟨j, x, hj, rfl, HX, HAj, hmj⟩ := hrel
        clear HAr hmr HS
        by_cases hjk : j < k
        · have hkl : k - 1 - j < xs.length := by have := hn.out; omega
          have c1 := cell_later hmj (hc.out (k - 1 - j) hkl)
          have hps := pre_succ first hkl
          rw [show k - 1 - j + 1 = k - j by omega, ← HX.out] at hps
          have hbd := pre_bd hf.out.1 hf.out.2 xs (k - 1 - j) (by omega)
          have hbx : 0 ≤ x ∧ x < 18446744073709551616 := by rw [HX.out]; exact pre_bd hf.out.1 hf.out.2 xs (k - j) (by have := hn.out; omega)
          have HY : Hid (pre first xs (k - 1 - j) = pre first xs (k - (j + 1))) := by show _ = _; congr 1; omega
          generalize pre first xs (k - 1 - j) = y at hps hbd HY
          generalize xs[k - 1 - j] = v at c1 hps
          have hadd := Lib.hid (add2 (IntKind.u64.wrap (-v)) y HAj.out (by omega) hbx (by rw [hps]; exact off_int y v hbd.1 hbd.2))
          clear hps hbd hbx HX
          have i0 : 0 ≤ (j : Int) := by omega
          have i1 : (j : Int) < (k : Int) := by omega
          go_wp2_with fail
          refine hadd.out.mono ?_
          rintro e w3 ⟨rfl, h3, ht3⟩
          have H3 := Lib.hid h3
          clear h3
          go_wp2_with fail
          go_roundw
          case rel => exact ⟨j + 1, y, by omega, by go_num, HY, (show Arena _ _ _ (1 + (k : Int) + ((j + 1 : Nat) : Int)) _ by rw [show (1 : Int) + (k : Int) + ((j + 1 : Nat) : Int) = 1 + (k : Int) + (j : Int) + 1 by omega]; exact H3.out), Below.trans hmj (ht3.below hA1 hB1)⟩
          case measure => simp [intOf]; omega
        · obtain rfl : j = k := by omega
          rw [Nat.sub_self, pre_zero] at HX
          have hxf := HX.out
          subst hxf
          go_wp2_with fail
          refine (load2 HAj.out (by omega)).mono ?_
          rintro e w3 ⟨rfl, h3, ht3⟩
          have H3 := Lib.hid h3
          clear h3
          go_wp2_with fail
          refine (load20 H3.out (by omega)).mono ?_
          rintro e w4 ⟨rfl, h4, ht4⟩
          have H4 := Lib.hid h4
          clear h4
          go_wp2_with fail
          refine (Count_c H4.out).mono ?_
          rintro e w5 ⟨rfl, rfl⟩
          go_wp2_with fail
          go_ret
          exact ⟨retb_of (by simp; omega), Below.trans hmj ((ht3.trans ht4).below hA1 hB1)⟩
set_option maxRecDepth 100000 in
set_option maxHeartbeats 1000000 in
theorem adds_none (first : Int) (w : World) :
    Calls Try.prog 6 #[.int .u64 first, .slice none 0 0] w fun e w' => e = .returned (.bool true) ∧ Made w w' := by
  go_enter Try.func6, Try.ntmps6
  go_wp2_with fail
  refine (speaks_c _).mono ?_
  rintro e w0 ⟨rfl, hm0⟩
  go_wp2_with fail
  refine (New_yes 2 (by omega) (by omega) _).mono ?_
  rintro e w1 ⟨rfl, h1, hs1, hm1⟩
  go_wp2_with fail
  have h1' : Arena w1 (w0.heap.size + 1) w0.heap.size 0 [0, 0] := h1
  have hB1 : w.heap.size ≤ w0.heap.size := hm0.size
  have hm : Made w w1 := Made.trans hm0 hm1
  clear h1 hs1 hm1 hm0
  generalize hA : w0.heap.size + 1 = A at *
  have hA1 : w.heap.size ≤ A := by omega
  generalize w0.heap.size = B at *
  clear hA
  refine (Store_yes h1' (by omega) 1 first (by simp)).mono ?_
  rintro e w2 ⟨rfl, h2', ht2⟩
  have h2 : Arena w2 A B (0 + 1) [0, first] := h2'
  have hm2 : Made w w2 := Below.trans hm (ht2.below hA1 hB1)
  have HA := Lib.hid h2
  clear h2 h2' ht2 h1' hm
  go_wp2_with fail
  go_loopw [7, 38] (fun x i wr => x = .int .u64 first ∧ i = .int .i64 0 ∧ Hid (Arena wr A B (0 + 1) [0, first]) ∧ Made w wr) (fun _ i _ => 0)
  case atStart => exact ⟨rfl, rfl, HA, hm2⟩
  case round =>
    obtain ⟨rfl, rfl, HAr, hmr⟩ := hrel
    clear HA hm2
    go_wp2_with fail
    go_loopw [53] (fun i wr => i = .int .i64 0 ∧ Hid (Arena wr A B (0 + 1) [0, first]) ∧ Made w wr) (fun i _ => 0)
    case atStart => exact ⟨rfl, HAr, hmr⟩
    case round =>
      obtain ⟨rfl, HAj, hmj⟩ := hrel
      clear HAr hmr
      go_wp2_with fail
      refine (load2 HAj.out (by omega)).mono ?_
      rintro e w3 ⟨rfl, h3, ht3⟩
      have H3 := Lib.hid h3
      clear h3
      go_wp2_with fail
      refine (load20 H3.out (by omega)).mono ?_
      rintro e w4 ⟨rfl, h4, ht4⟩
      have H4 := Lib.hid h4
      clear h4
      go_wp2_with fail
      refine (Count_c H4.out).mono ?_
      rintro e w5 ⟨rfl, rfl⟩
      go_wp2_with fail
      go_ret
      exact ⟨retb_of (by simp), Below.trans hmj ((ht3.trans ht4).below hA1 hB1)⟩

set_option maxRecDepth 100000 in
set_option maxHeartbeats 1000000 in
theorem adds_far (first : Int) (a : Addr) (n cap : Nat) (hn : 80 < n) (hn' : (n : Int) ≤ 9223372036854775807) (w : World) :
    Calls Try.prog 6 #[.int .u64 first, .slice (some a) n cap] w fun e w' => e = .returned (.bool true) ∧ Made w w' := by
  have hn1 : 80 < (n : Int) := by omega
  go_enter Try.func6, Try.ntmps6
  go_wp2_with fail
  refine (speaks_c _).mono ?_
  rintro e w0 ⟨rfl, hm0⟩
  go_wp2_with fail
  refine (speaks_c _).mono ?_
  rintro e w1 ⟨rfl, hm1⟩
  go_wp2_with fail
  go_ret
  exact ⟨rfl, Made.trans hm0 hm1⟩

theorem u64_bd {a : Int} (h : (Lit.int .u64 a).wf = true) : 0 ≤ a ∧ a < 18446744073709551616 := by
  simp [Lit.wf, IntKind.min, IntKind.max, IntKind.signed, IntKind.bits] at h
  omega
theorem adds (first : Int) (v : Value) (xs : List Int) (w : World) (h0 : (Lit.int .u64 first).wf = true) (hv : SlK .u64 w v xs) (_ : ∀ z ∈ xs, (Lit.int .u64 z).wf = true) :
    Calls Try.prog 6 #[.int .u64 first, v] w fun e w' => e = .returned (.bool true) ∧ Made w w' := by
  rcases hv with ⟨rfl, rfl⟩ | ⟨a, cap, rfl, h1, h2, h3⟩
  · exact adds_none first w
  · by_cases hn : xs.length ≤ 80
    · exact adds_some first a xs.length cap xs (u64_bd h0) rfl hn w h3
    · exact adds_far first a xs.length cap (by omega) (by unfold maxLen at h2; omega) w
end Go.Proofs.Ytnkcekgjppkbpaa.Law2
