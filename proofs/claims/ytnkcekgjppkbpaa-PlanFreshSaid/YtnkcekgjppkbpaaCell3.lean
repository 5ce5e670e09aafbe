/- Package cell, walked: All, Of; knelllaw02.same. -/
import Derived.Test.YtnkcekgjppkbpaaCell2
import Derived.Test.YtnkcekgjppkbpaaRd
namespace Go.Proofs.Ytnkcekgjppkbpaa.Cell
open Go.RowKit Go.Proofs.Ytnkcekgjppkbpaa
set_option linter.unusedVariables false
set_option linter.unusedSimpArgs false

theorem Arena.later {w w' : World} {a b : Nat} {c : Int} {xs : List Int} (h : Arena w a b c xs) (m : Made w w') : Arena w' a b c xs :=
  ⟨(m.block _ (Array.getElem?_eq_some_iff.1 h.ha).1).trans h.ha, (m.block _ (Array.getElem?_eq_some_iff.1 h.hb).1).trans h.hb, h.ne, h.c0, h.c1⟩
theorem retb_eq {a b : Bool} (h : a = b) : Ending.returned (.bool a) = .returned (.bool b) := by rw [h]

theorem uint_info : (Try.prog.info? 43).map (fun i => (i.zero, i.size, i.bytes)) = some (some (.int .u64 0), 1, 8) := by kernel_rfl
theorem made_row64 (n : Nat) : madeCells (Value.int .u64 0).cells n = row (List.replicate n 0) := by
  unfold madeCells row
  apply Array.ext
  · simp
  · intro k h1 h2
    simp [Value.cells, Nat.mod_one]
theorem make_run64 (n : Nat) (h : n ≤ 1048576) (w : World) : (Instr.makeSlice 44 (.int .i64 (n : Int)) (.int .i64 (n : Int))).run Try.prog w =
    .ok (.slice (some ⟨w.heap.size, 0, none⟩) n n) (w.alloc (.cells (row (List.replicate n 0)) 43)) := by
  obtain ⟨i, hi, hq⟩ := Option.map_eq_some_iff.1 uint_info
  simp only [Prod.mk.injEq] at hq
  obtain ⟨hz, hs, hb⟩ := hq
  have := run_makeSlice (P := Try.prog) w 44 43 i _ (by kernel_rfl) hi hz .i64 .i64 n n (by omega) (by omega) (by rw [hs]; simp; omega) (by rw [hb]; omega) (by omega)
  rw [this, hs]
  simp only [Int.toNat_natCast, Nat.mul_one]
  rw [made_row64]

/-- The first of these, and then noughts. -/
def part (xs : List Int) (k : Nat) : List Int := xs.take k ++ List.replicate (xs.length - k) 0
theorem part_zero (xs : List Int) : part xs 0 = List.replicate xs.length 0 := by simp [part]
theorem part_all (xs : List Int) : part xs xs.length = xs := by simp [part]
theorem part_len (xs : List Int) {k : Nat} (h : k ≤ xs.length) : (part xs k).length = xs.length := by simp [part]; omega
theorem part_set (xs : List Int) {k : Nat} (h : k < xs.length) : (part xs k).set k xs[k] = part xs (k + 1) := by
  apply List.ext_getElem?
  intro i
  unfold part
  rw [List.getElem?_set]
  by_cases h1 : k = i
  · subst h1
    rw [if_pos rfl, if_pos (by simp; omega), List.getElem?_append_left (by simp; omega), List.getElem?_take_of_lt (by omega), List.getElem?_eq_getElem h]
  · rw [if_neg h1]
    by_cases h2 : i < k
    · rw [List.getElem?_append_left (by simp; omega), List.getElem?_append_left (by simp; omega), List.getElem?_take_of_lt h2, List.getElem?_take_of_lt (by omega)]
    · rw [List.getElem?_append_right (by simp; omega), List.getElem?_append_right (by simp; omega)]
      simp only [List.length_take, List.getElem?_replicate]
      rw [Nat.min_eq_left (by omega), Nat.min_eq_left (by omega)]
      by_cases h3 : i < xs.length
      · rw [if_pos (by omega), if_pos (by omega)]
      · rw [if_neg (by omega), if_neg (by omega)]
theorem row_at' {xs : List Int} {i : Nat} (h : i < xs.length) : (row xs)[i]? = some (.int .u64 xs[i]) := by unfold row; simp [h]
theorem row_put (xs : List Int) (i : Nat) (v : Int) : (row xs).setIfInBounds i (.int .u64 v) = row (xs.set i v) := by
  unfold row; rw [List.setIfInBounds_toArray, List.map_set]

set_option maxRecDepth 100000 in
set_option maxHeartbeats 1000000 in
theorem All_c {w : World} {a b : Nat} {c : Int} {xs : List Int} (h : Arena w a b c xs) (hn : xs.length ≤ 1048576) :
    Calls Try.prog 33 #[.pointer (some ⟨a, 0, none⟩)] w fun e w' => e = .returned (.slice (some ⟨w.heap.size, 0, none⟩) xs.length xs.length) ∧ w'.heap[w.heap.size]? = some (.cells (row xs) 43 (0, 0)) ∧ Made w w' := by
  obtain ⟨n, hnx⟩ : ∃ n, n = xs.length := ⟨_, rfl⟩
  have HN := Lib.hid hnx
  have HA := Lib.hid h
  have k0 : w.cell? ⟨a, 0, none⟩ = some (.slice (some ⟨b, 0, none⟩) n n) := by rw [hnx]; exact cell_of_row _ _ _ _ _ _ h.ha
  have ha : a < w.heap.size := (Array.getElem?_eq_some_iff.1 h.ha).1
  rw [← hnx] at hn ⊢
  clear h hnx
  have hm := fun w => make_run64 n hn w
  have k1 : ∀ w' : World, Made w w' → w'.cell? ⟨a, 0, none⟩ = some (.slice (some ⟨b, 0, none⟩) n n) := fun w' m => (m.cell ha).trans k0
  go_enter Try.func33, Try.ntmps33
  go_wp2_with fail
  go_loopw [16] (fun i wr => ∃ k : Nat, k ≤ n ∧ i = .int .i64 k ∧ Hid (wr.heap[w.heap.size]? = some (.cells (row (part xs k)) 43 (0, 0))) ∧ Made w wr) (fun i _ => (n - intOf i).toNat)
  case atStart => exact ⟨0, by omega, rfl, (by rw [part_zero, ← HN.out]; exact heap_alloc_new _ _), (Made.refl w).alloc (Nat.le_refl _) _⟩
  case round =>
    obtain ⟨k, hk, rfl, HR, hmr⟩ := hrel
    by_cases hkn : k < n
    · have hkl : k < xs.length := by have := HN.out; omega
      have HA' := Lib.hid (HA.out.later hmr)
      have c0 := k1 _ hmr
      have cx := HA'.out.cell hkl
      have hlen : k < (part xs k).length := by rw [part_len xs (by omega)]; exact hkl
      have co : wr.cell? ⟨w.heap.size, k, none⟩ = some (.int .u64 (part xs k)[k]) := by rw [cell_of_row _ _ _ _ _ _ HR.out]; exact row_at' hlen
      have cz : wr.frozen? ⟨w.heap.size, k, none⟩ = false := frozen_of_row _ _ _ _ _ HR.out
      have HP := Lib.hid (part_set xs hkl)
      have HS : Hid ((wr.setCell ⟨w.heap.size, k, none⟩ (.int .u64 xs[k])).heap[w.heap.size]? = some (.cells (row (part xs (k + 1))) 43 (0, 0))) := by
        show _ = _
        rw [setCell_eq_setRow _ _ _ _ _ _ _ HR.out, heap_setRow_same _ _ _ _ _ _ HR.out, row_put, HP.out]
      generalize (part xs k)[k] = u at co
      generalize xs[k] = v at cx HS HP
      have hm2 : Made w (wr.setCell ⟨w.heap.size, k, none⟩ (.int .u64 v)) := Below.setCell hmr (Nat.le_refl _) _
      have i0 : 0 ≤ (k : Int) := by omega
      have i1 : (k : Int) < (n : Int) := by omega
      go_wp2_with fail
      refine (Atom.load _ _ _ cx).mono ?_
      rintro e w' ⟨rfl, rfl⟩
      go_wp2_with fail
      go_roundw
      case rel => exact ⟨k + 1, by omega, by go_num, HS, hm2⟩
      case measure => simp [intOf]; omega
    · obtain rfl : k = n := by omega
      have HE : Hid (wr.heap[w.heap.size]? = some (.cells (row xs) 43 (0, 0))) := by show _ = _; rw [HR.out, HN.out, part_all]
      clear k1 hm
      go_wp2_with fail
      go_ret
      exact ⟨rfl, HE.out, hmr⟩

set_option maxRecDepth 100000 in
set_option maxHeartbeats 1000000 in
theorem same_c (xs ys : List Int) (A A' : Option Addr) (n m c c' : Nat) (hn : Hid (n = xs.length)) (hm : Hid (m = ys.length)) (h : (n : Int) ≤ 9223372036854775807) (h' : (m : Int) ≤ 9223372036854775807) {w : World} {B : Nat} (hx : Rd .u64 w B A xs) (hy : Rd .u64 w B A' ys) :
    Calls Try.prog 34 #[.slice A n c, .slice A' m c'] w fun e w' => e = .returned (.bool (decide (xs = ys))) ∧ Made w w' := by
  by_cases hnm : n = m
  · subst hnm
    have HX := Lib.hid hx
    have HY := Lib.hid hy
    clear hx hy h'
    go_enter Try.func34, Try.ntmps34
    go_wp2_with fail
    go_loopw [13] (fun i wr => ∃ k q : Nat, k ≤ n ∧ i = .int .i64 k ∧ wr = w.drewN q ∧ Hid (xs.take k = ys.take k)) (fun i _ => (n - intOf i).toNat)
    case atStart => exact ⟨0, 0, by omega, rfl, rfl, by show _ = _; simp⟩
    case round =>
      obtain ⟨k, q, hk, rfl, rfl, HT⟩ := hrel
      by_cases hkn : k < n
      · have hkx : k < xs.length := by have := hn.out; omega
        have hky : k < ys.length := by have := hm.out; omega
        obtain ⟨a, rfl, ha, cx⟩ := HX.out k hkx
        obtain ⟨b, rfl, hb, cy⟩ := HY.out k hky
        have i0 : 0 ≤ (k : Int) := by omega
        have i1 : (k : Int) < (n : Int) := by omega
        have HT' : Hid (xs[k] = ys[k] → xs.take (k + 1) = ys.take (k + 1)) := fun e => by
          rw [List.take_succ_eq_append_getElem hkx, List.take_succ_eq_append_getElem hky, HT.out, e]
        have HF : Hid (xs[k] ≠ ys[k] → ¬ xs = ys) := fun e h => e (by subst h; rfl)
        generalize xs[k] = u at cx HT' HF
        generalize ys[k] = v at cy HT' HF
        by_cases huv : u = v
        · subst huv
          go_wp2_with fail
          go_quiet (fail)
          go_wp2_with fail
          go_roundw
          case rel => exact ⟨k + 1, _, by omega, by go_num, by first | rfl | (simp only [World.drewN_drewN]; rfl), by first | exact HT'.out rfl | exact HT'.out trivial⟩
          case measure => simp [intOf]; omega
        · go_wp2_with fail
          go_quiet (fail)
          go_wp2_with fail
          go_ret
          exact ⟨retb_eq (by simp [HF.out huv]), Made.trans (Made.drewN w _) (Made.drewN _ _)⟩
      · obtain rfl : k = n := by omega
        have HE : Hid (xs = ys) := by
          show _ = _
          have := HT.out
          rw [List.take_of_length_le (by have := hn.out; omega), List.take_of_length_le (by have := hm.out; omega)] at this
          exact this
        go_wp2_with fail
        go_ret
        exact ⟨retb_eq (by simp [HE.out]), Made.drewN w _⟩
  · have hb : Hid (¬ xs = ys) := fun e => hnm (by rw [hn.out, hm.out, e])
    clear hx hy
    go_enter Try.func34, Try.ntmps34
    go_wp2_with fail
    go_ret
    exact ⟨retb_eq (by simp [hb.out]), Made.refl w⟩

set_option maxRecDepth 100000 in
set_option maxHeartbeats 1000000 in
theorem Of_c (xs : List Int) (A : Option Addr) (n c : Nat) (hn : Hid (n = xs.length)) (h1 : 1 ≤ n) (h2 : n ≤ 1048576) {w : World} (hx : Rd .u64 w w.heap.size A xs) :
    Calls Try.prog 32 #[.slice A n c] w fun e w' => e = .returned (.tuple #[.pointer (some ⟨w.heap.size + 1, 0, none⟩), .int .i64 0]) ∧ Arena w' (w.heap.size + 1) w.heap.size 0 xs ∧ w'.heap.size = w.heap.size + 2 ∧ Made w w' := by
  have HX := Lib.hid hx
  have HNW := Lib.hid (New_yes n h1 h2)
  clear hx
  go_enter Try.func32, Try.ntmps32
  go_wp2_with fail
  refine (HNW.out _).mono ?_
  rintro e w1 ⟨rfl, hA1, hs1, hm1⟩
  have HA1 := Lib.hid hA1
  have HS1 := Lib.hid hs1
  clear hA1 hs1
  generalize hAd : w.heap.size + 1 = ad at *
  have HAD := Lib.hid hAd
  clear hAd
  go_wp2_with fail
  go_loopw [19] (fun i wr => ∃ k : Nat, k ≤ n ∧ i = .int .i64 k ∧ Hid (Arena wr ad w.heap.size 0 (part xs k)) ∧ Hid (wr.heap.size = w.heap.size + 2) ∧ Made w wr) (fun i _ => (n - intOf i).toNat)
  case atStart => exact ⟨0, by omega, rfl, (by show Arena _ _ _ _ _; rw [part_zero, ← hn.out]; exact HA1.out), HS1, hm1⟩
  case round =>
    obtain ⟨k, hk, rfl, HAr, HSr, hmr⟩ := hrel
    clear HA1 hm1
    by_cases hkn : k < n
    · have hkl : k < xs.length := by have := hn.out; omega
      obtain ⟨a, rfl, ha, cx⟩ := HX.out.later hmr k hkl
      have hlen : k < (part xs k).length := by rw [part_len xs (by omega)]; exact hkl
      have c0 : wr.cell? ⟨ad, 0, none⟩ = some (.slice (some ⟨w.heap.size, 0, none⟩) n n) := by
        have := cell_of_row (j := 0) _ _ _ _ _ HAr.out.ha
        rw [part_len xs (by omega), ← hn.out] at this
        exact this
      have co := HAr.out.cell hlen
      have cz := HAr.out.open_at k
      have HP := Lib.hid (part_set xs hkl)
      have HPut : Hid (Arena (wr.setCell ⟨w.heap.size, k, none⟩ (.int .u64 xs[k])) ad w.heap.size 0 (part xs (k + 1))) := by
        show Arena _ _ _ _ _
        have := HAr.out.put k xs[k]
        rw [HP.out] at this
        exact this
      generalize (part xs k)[k] = u at co
      generalize xs[k] = v at cx HPut HP
      have hm2 : Made w (wr.setCell ⟨w.heap.size, k, none⟩ (.int .u64 v)) := Below.setCell hmr (Nat.le_refl _) _
      have HS2 : Hid ((wr.setCell ⟨w.heap.size, k, none⟩ (.int .u64 v)).heap.size = w.heap.size + 2) := by show _ = _; rw [← HSr.out]; simp [World.setCell]
      have i0 : 0 ≤ (k : Int) := by omega
      have i1 : (k : Int) < (n : Int) := by omega
      go_wp2_with fail
      refine (Atom.store _ _ v _ co cz).mono ?_
      rintro e w' ⟨rfl, rfl⟩
      go_wp2_with fail
      go_roundw
      case rel => exact ⟨k + 1, by omega, by go_num, HPut, HS2, hm2⟩
      case measure => simp [intOf]; omega
    · obtain rfl : k = n := by omega
      have HE : Hid (Arena wr ad w.heap.size 0 xs) := by
        show Arena _ _ _ _ _
        have := HAr.out
        rw [hn.out, part_all] at this
        exact this
      go_wp2_with fail
      go_ret2
      rw [HAD.out]
      exact ⟨rfl, HE.out, HSr.out, hmr⟩
set_option maxRecDepth 100000 in
set_option maxHeartbeats 400000 in
theorem Of_no (A : Option Addr) (c : Nat) (w : World) : Calls Try.prog 32 #[.slice A 0 c] w fun e w' => e = .returned (.tuple #[.pointer none, .int .i64 1]) ∧ w = w' := by
  go_enter Try.func32, Try.ntmps32
  go_wp2_with fail
  refine (New_no 0 (by omega) _).mono ?_
  rintro e w1 ⟨rfl, rfl⟩
  go_wp2_with fail
  go_ret2
  exact ⟨rfl, rfl⟩
end Go.Proofs.Ytnkcekgjppkbpaa.Cell
