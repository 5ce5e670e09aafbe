/- Package cell, walked: All, Of; knelllaw02.same. -/
import Derived.Test.YtndpkonihcebeaaCell2
import Derived.Test.YtndpkonihcebeaaRd
namespace Go.Proofs.Ytndpkonihcebeaa.Cell
open Go.RowKit Go.Proofs.Ytndpkonihcebeaa
set_option linter.unusedVariables false
set_option linter.unusedSimpArgs false

theorem Arena.later {w w' : World} {a b : Nat} {c : Int} {xs : List Int} (h : Arena w a b c xs) (m : Made w w') : Arena w' a b c xs :=
  ⟨(m.block _ (Array.getElem?_eq_some_iff.1 h.ha).1).trans h.ha, (m.block _ (Array.getElem?_eq_some_iff.1 h.hb).1).trans h.hb, h.ne, h.c0, h.c1⟩
theorem retb_eq {a b : Bool} (h : a = b) : Ending.returned (.bool a) = .returned (.bool b) := by rw [h]

theorem uint_info : (Try.prog.info? 58).map (fun i => (i.zero, i.size, i.bytes)) = some (some (.int .u64 0), 1, 8) := by kernel_rfl
theorem made_row64 (n : Nat) : madeCells (Value.int .u64 0).cells n = row (List.replicate n 0) := by
  unfold madeCells row
  apply Array.ext
  · simp
  · intro k h1 h2
    simp [Value.cells, Nat.mod_one]
theorem make_run64 (n : Nat) (h : n ≤ 1048576) (w : World) : (Instr.makeSlice 63 (.int .i64 (n : Int)) (.int .i64 (n : Int))).run Try.prog w =
    .ok (.slice (some ⟨w.heap.size, 0, none⟩) n n) (w.alloc (.cells (row (List.replicate n 0)) 58)) := by
  obtain ⟨i, hi, hq⟩ := Option.map_eq_some_iff.1 uint_info
  simp only [Prod.mk.injEq] at hq
  obtain ⟨hz, hs, hb⟩ := hq
  have := run_makeSlice (P := Try.prog) w 63 58 i _ (by kernel_rfl) hi hz .i64 .i64 n n (by omega) (by omega) (by rw [hs]; simp; omega) (by rw [hb]; omega) (by omega)
  rw [this, hs]
  simp only [Int.toNat_natCast, Nat.mul_one]
  rw [made_row64]

/-- The first of these, and then noughts. -/
def part (xs : List Int) (k : Nat) : List Int := xs.take k ++ List.replicate (xs.length - k) 0
theorem part_zero (xs : List Int) : part xs 0 = List.replicate xs.length 0 := by simp [part]
theorem part_all (xs : List Int) : part xs xs.length = xs := by simp [part]
theorem part_len (xs : List Int) {k : Nat} (h : k ≤ xs.length) : (part xs k).length = xs.length := by simp [part]; omega
theorem part_set (xs : List Int) {k : Nat} (h : k < xs.length) : (part xs k).set k xs[k] = part xs (k + 1) := by
  apply List.ext_getElem?
  intro i
  unfold part
  rw [List.getElem?_set]
  by_cases h1 : k = i
  · subst h1
    rw [if_pos rfl, if_pos (by simp; omega), List.getElem?_append_left (by simp; omega), List.getElem?_take_of_lt (by omega), List.getElem?_eq_getElem h]
  · rw [if_neg h1]
    by_cases h2 : i < k
    · rw [List.getElem?_append_left (by simp; omega), List.getElem?_append_left (by simp; omega), List.getElem?_take_of_lt h2, List.getElem?_take_of_lt (by omega)]
    · rw [List.getElem?_append_right (by simp; omega), List.getElem?_append_right (by simp; omega)]
      simp only [List.length_take, List.getElem?_replicate]
      rw [Nat.min_eq_left (by omega), Nat.min_eq_left (by omega)]
      by_cases h3 : i < xs.length
      · rw [if_pos (by omega), if_pos (by omega)]
      · rw [if_neg (by omega), if_neg (by omega)]
theorem row_at' {xs : List Int} {i : Nat} (h : i < xs.length) : (row xs)[i]? = some (.int .u64 xs[i]) := by unfold row; simp [h]
theorem row_put (xs : List Int) (i : Nat) (v : Int) : (row xs).setIfInBounds i (.int .u64 v) = row (xs.set i v) := by
  unfold row; rw [List.setIfInBounds_toArray, List.map_set]

set_option maxRecDepth 100000 in
set_option maxHeartbeats 1000000 in
theorem All_c {w : World} {a b : Nat} {c : Int} {xs : List Int} (h : Arena w a b c xs) (hn : xs.length ≤ 1048576) :
    Calls Try.prog 27 #[.pointer (some ⟨a, 0, none⟩)] w fun e w' => e = .returned (.slice (some ⟨w.heap.size, 0, none⟩) xs.length xs.length) ∧ w'.heap[w.heap.size]? = some (.cells (row xs) 58 (0, 0)) ∧ Made w w' := by
  obtain ⟨n, hnx⟩ : ∃ n, n = xs.length := ⟨_, rfl⟩
  have HN := Lib.hid hnx
  have HA := Lib.hid h
  have k0 : w.cell? ⟨a, 0, none⟩ = some (.slice (some ⟨b, 0, none⟩) n n) := by rw [hnx]; exact cell_of_row _ _ _ _ _ _ h.ha
  have ha : a < w.heap.size := (Array.getElem?_eq_some_iff.1 h.ha).1
  rw [← hnx] at hn ⊢
  clear h hnx
  have hm := fun w => make_run64 n hn w
  have k1 : ∀ w' : World, Made w w' → w'.cell? ⟨a, 0, none⟩ = some (.slice (some ⟨b, 0, none⟩) n n) := fun w' m => (m.cell ha).trans k0
  go_enter Try.func27, Try.ntmps27
  go_wp2_with fail
  go_loopw [16] (fun i wr => ∃ k : Nat, k ≤ n ∧ i = .int .i64 k ∧ Hid (wr.heap[w.heap.size]? = some (.cells (row (part xs k)) 58 (0, 0))) ∧ Made w wr) (fun i _ => (n - intOf i).toNat)
  case atStart => exact ⟨0, by omega, rfl, (by rw [part_zero, ← HN.out]; exact heap_alloc_new _ _), (Made.refl w).alloc (Nat.le_refl _) _⟩
  case round =>
    obtain ⟨k, hk, rfl, HR, hmr⟩ := hrel
    by_cases hkn : k < n
    · have hkl : k < xs.length := by have := HN.out; omega
      have HA' := Lib.hid (HA.out.later hmr)
      have c0 := k1 _ hmr
      have cx := HA'.out.cell hkl
      have hlen : k < (part xs k).length := by rw [part_len xs (by omega)]; exact hkl
      have co : wr.cell? ⟨w.heap.size, k, none⟩ = some (.int .u64 (part xs k)[k]) := by rw [cell_of_row _ _ _ _ _ _ HR.out]; exact row_at' hlen
      have cz : wr.frozen? ⟨w.heap.size, k, none⟩ = false := frozen_of_row _ _ _ _ _ HR.out
      have HP := Lib.hid (part_set xs hkl)
      have HS : Hid ((wr.setCell ⟨w.heap.size, k, none⟩ (.int .u64 xs[k])).heap[w.heap.size]? = some (.cells (row (part xs (k + 1))) 58 (0, 0))) := by
        show _ = _
        rw [setCell_eq_setRow _ _ _ _ _ _ _ HR.out, heap_setRow_same _ _ _ _ _ _ HR.out, row_put, HP.out]
      generalize (part xs k)[k] = u at co
      generalize xs[k] = v at cx HS HP
      have hm2 : Made w (wr.setCell ⟨w.heap.size, k, none⟩ (.int .u64 v)) := Below.setCell hmr (Nat.le_refl _) _
      have i0 : 0 ≤ (k : Int) := by omega
      have i1 : (k : Int) < (n : Int) := by omega
      go_wp2_with fail
      refine (Atom.load _ _ _ cx).mono ?_
      rintro e w' ⟨rfl, rfl⟩
      go_wp2_with fail
      go_roundw
      case rel => exact ⟨k + 1, by omega, by go_num, HS, hm2⟩
      case measure => simp [intOf]; omega
    · obtain rfl : k = n := by omega
      have HE : Hid (wr.heap[w.heap.size]? = some (.cells (row xs) 58 (0, 0))) := by show _ = _; rw [HR.out, HN.out, part_all]
      clear k1 hm
      go_wp2_with fail
      go_ret
      exact ⟨rfl, HE.out, hmr⟩


end Go.Proofs.Ytndpkonihcebeaa.Cell
