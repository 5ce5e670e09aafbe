/- Package knellref01: Numbers, walked; the numbers of a word, laid, are the word. -/
import Derived.Test.YtdmjokkjhbdnnaaRef1b
import Derived.Laws.MakeOwn
namespace Go.Proofs.Ytdmjokkjhbdnnaa.Ref1
open Go.RowKit Go.Proofs.Ytdmjokkjhbdnnaa Go.Proofs.Ytdmjokkjhbdnnaa.Num Go.Proofs.Ytdmjokkjhbdnnaa.Wd
set_option linter.unusedVariables false
set_option linter.unusedSimpArgs false

/-- What stands in a word, by these widths. -/
def nums (x : Nat) : List Nat → List Nat
  | [] => []
  | n :: r => getN x r.sum n :: nums x r
theorem nums_len (x : Nat) : ∀ ws, (nums x ws).length = ws.length
  | [] => rfl
  | _ :: r => by simp [nums, nums_len x r]
def pairs (ws vs : List Nat) : List (Nat × Int) := (ws.zip vs).map fun p => (p.1, (p.2 : Int))
theorem laid_nums (x : Nat) : ∀ ws : List Nat, laid (pairs ws (nums x ws)) ws.sum = some (x % 2 ^ ws.sum)
  | [] => by simp [laid, pairs, Nat.mod_one]
  | n :: r => by
    have ih := laid_nums x r
    have hlt := getN_lt x r.sum n
    simp only [nums, pairs, List.zip_cons_cons, List.map_cons, List.sum_cons, laid] at ih ⊢
    rw [if_pos ⟨by omega, by exact_mod_cast hlt⟩, show n + r.sum - n = r.sum by omega, ih]
    simp only [Option.map_some, Int.toNat_natCast, Option.some.injEq]
    unfold getN
    rw [Nat.add_comm n, Nat.pow_add, Nat.mod_mul, Nat.mul_comm (2 ^ r.sum) (x / 2 ^ r.sum % 2 ^ n)]
theorem packed_nums (x : Nat) (ws : List Nat) (hs : ws.sum = 64) (hx : x < 2 ^ 64) : packed (pairs ws (nums x ws)) = (x, 0) := by
  apply packed_some
  have := laid_nums x ws
  rw [hs, Nat.mod_eq_of_lt hx] at this
  exact this
theorem nums_at (x : Nat) (ws : List Nat) (k : Nat) (h : k < ws.length) : nums x (ws.drop k) = getN x (ws.drop (k + 1)).sum ws[k] :: nums x (ws.drop (k + 1)) := by
  rw [List.drop_eq_getElem_cons h]; rfl

/-- The row while it is filled, from behind. -/
def fill (x : Nat) (ws : List Nat) (k : Nat) : List Nat := List.replicate k 0 ++ nums x (ws.drop k)
theorem fill_end (x : Nat) (ws : List Nat) : fill x ws ws.length = List.replicate ws.length 0 := by simp [fill, nums]
theorem fill_zero (x : Nat) (ws : List Nat) : fill x ws 0 = nums x ws := by simp [fill]
theorem fill_len (x : Nat) (ws : List Nat) (k : Nat) (h : k ≤ ws.length) : (fill x ws k).length = ws.length := by simp [fill, nums_len]; omega
theorem fill_set (x : Nat) (ws : List Nat) (k : Nat) (h : k < ws.length) : (fill x ws (k + 1)).set k (getN x (ws.drop (k + 1)).sum ws[k]) = fill x ws k := by
  unfold fill
  rw [nums_at x ws k h, List.replicate_succ', List.append_assoc, List.set_append_right _ _ (by simp)]
  simp
theorem ints_at {l : List Nat} {k : Nat} (h : k < l.length) : (ints l)[k]? = some (.int .i64 (l[k] : Int)) := by unfold ints; simp [h]
theorem ints_set (l : List Nat) (k v : Nat) : (ints l).setIfInBounds k (.int .i64 (v : Int)) = ints (l.set k v) := by
  unfold ints; rw [List.setIfInBounds_toArray, List.map_set]
theorem int_info : (Try.prog.info? 3).map (fun i => (i.zero, i.size, i.bytes)) = some (some (.int .i64 0), 1, 8) := by kernel_rfl
theorem made_ints (n : Nat) : madeCells (Value.int .i64 0).cells n = ints (List.replicate n 0) := by
  unfold madeCells ints
  apply Array.ext
  · simp
  · intro k h1 h2
    simp [Value.cells, Nat.mod_one]
theorem make_ints (n : Nat) (h : n ≤ 1048576) (w : World) : (Instr.makeSlice 41 (.int .i64 (n : Int)) (.int .i64 (n : Int))).run Try.prog w =
    .ok (.slice (some ⟨w.heap.size, 0, none⟩) n n) (w.alloc (.cells (ints (List.replicate n 0)) 3)) := by
  obtain ⟨i, hi, hq⟩ := Option.map_eq_some_iff.1 int_info
  simp only [Prod.mk.injEq] at hq
  obtain ⟨hz, hs, hb⟩ := hq
  have := run_makeSlice (P := Try.prog) w 41 3 i _ (by kernel_rfl) hi hz .i64 .i64 n n (by omega) (by omega) (by rw [hs]; simp; omega) (by rw [hb]; omega) (by omega)
  rw [this, hs]
  simp only [Int.toNat_natCast, Nat.mul_one]
  rw [made_ints]
theorem quo_step (x s n : Nat) : x / 2 ^ s / 2 ^ n = x / 2 ^ (n + s) := by rw [Nat.div_div_eq_div_mul, ← Nat.pow_add, Nat.add_comm s n]
theorem quo_u64 (x s P : Nat) (hx : x < 2 ^ 64) : IntKind.u64.wrap (((x / 2 ^ s : Nat) : Int) / (P : Int)) = ((x / 2 ^ s / P : Nat) : Int) := by
  rw [show (((x / 2 ^ s : Nat) : Int) / (P : Int)) = ((x / 2 ^ s / P : Nat) : Int) by simp]
  exact u64_nat _ (Nat.lt_of_le_of_lt (Nat.div_le_self _ _) (Nat.lt_of_le_of_lt (Nat.div_le_self _ _) hx))
theorem rem_u64 (x s n : Nat) (h : n ≤ 63) : IntKind.u64.wrap (((x / 2 ^ s : Nat) : Int) % ((2 ^ n : Nat) : Int)) = ((getN x s n : Nat) : Int) := by
  rw [← Int.natCast_emod]
  have h1 := getN_lt x s n
  have h2 := Nat.pow_le_pow_right (n := 2) (by decide) h
  refine u64_nat _ (Nat.lt_of_lt_of_le h1 (Nat.le_trans h2 (by decide)))
theorem rem_i64 (x s n : Nat) (h : n ≤ 63) : IntKind.i64.wrap ((getN x s n : Nat) : Int) = ((getN x s n : Nat) : Int) := by
  have h1 := getN_lt x s n
  have h2 : 2 ^ n ≤ 9223372036854775808 := Nat.le_trans (Nat.pow_le_pow_right (n := 2) (by decide) h) (by decide)
  rw [IntKind.wrap_i64]; omega
theorem rem_w64 (x s n : Nat) (h : n ≤ 63) : wrap64 (((x / 2 ^ s : Nat) : Int) % ((2 ^ n : Nat) : Int)) = ((getN x s n : Nat) : Int) := by
  rw [← Int.natCast_emod]
  have h1 := getN_lt x s n
  have h2 : 2 ^ n ≤ 9223372036854775808 := Nat.le_trans (Nat.pow_le_pow_right (n := 2) (by decide) h) (by decide)
  show wrap64 ((getN x s n : Nat) : Int) = _
  unfold wrap64; omega

set_option maxRecDepth 100000 in
set_option maxHeartbeats 1000000 in
theorem Numbers_c (x : Nat) (hx : x < 2 ^ 64) (b : Nat) (ws : List Nat) (h8 : ws.length ≤ 8) (hw : ∀ n ∈ ws, n ≤ 63) (w : World) (hb : b < w.heap.size)
    (hc : ∀ k (h : k < ws.length), w.cell? ⟨b, k, none⟩ = some (.int .i64 (ws[k] : Int))) :
    Calls Try.prog 41 #[.int .u64 x, .slice (some ⟨b, 0, none⟩) ws.length ws.length] w fun e w' =>
      e = .returned (.slice (some ⟨w.heap.size, 0, none⟩) ws.length ws.length) ∧ w'.heap[w.heap.size]? = some (.cells (ints (nums x ws)) 3 (0, 0)) ∧ Made w w' := by
  obtain ⟨N, hN⟩ : ∃ N, N = ws.length := ⟨_, rfl⟩
  have HN := Lib.hid hN
  have HC := Lib.hid hc
  have HW := Lib.hid hw
  have HX := Lib.hid hx
  rw [← hN] at h8 ⊢
  have hm := fun w => make_ints N (by omega) w
  have HV0 : Hid (x = x / 2 ^ (ws.drop N).sum) := by show _ = _; rw [hN]; simp
  clear hc hw hx hN
  go_enter Try.func41, Try.ntmps41
  go_wp2
  go_loopw [0, 6] (fun a i wr => ∃ (k v : Nat), k ≤ N ∧ i = .int .i64 ((k : Int) - 1) ∧ a = .int .u64 (v : Int) ∧ Hid (v = x / 2 ^ (ws.drop k).sum) ∧ Hid (wr.heap[w.heap.size]? = some (.cells (ints (fill x ws k)) 3 (0, 0))) ∧ Made w wr) (fun _ i _ => (intOf i + 1).toNat)
  case atStart => exact ⟨N, x, by omega, by go_num, rfl, HV0, (by show _ = _; rw [HN.out, fill_end]; exact Go.heap_alloc_new _ _), (Made.refl w).alloc (Nat.le_refl _) _⟩
  case round =>
    obtain ⟨k, v, hk, rfl, rfl, HV, HR, hmr⟩ := hrel
    cases k with
    | zero =>
      go_wp2
      go_ret
      exact ⟨rfl, by rw [← fill_zero]; exact HR.out, hmr⟩
    | succ j =>
      have hjl : j < ws.length := by have := HN.out; omega
      have cw := (hmr.cell hb).trans (HC.out j hjl)
      have hw1 := HW.out ws[j] (List.getElem_mem hjl)
      obtain ⟨n, hn⟩ : ∃ n, n = ws[j] := ⟨_, rfl⟩
      rw [← hn] at cw hw1
      obtain ⟨P, hP⟩ : ∃ P, P = 2 ^ n := ⟨_, rfl⟩
      have hP1 : 1 ≤ P := by rw [hP]; exact Nat.two_pow_pos n
      have HPC : Hid (∀ w : World, Calls Try.prog 43 #[.int .i64 (n : Int)] w fun e w' => e = .returned (.int .u64 (P : Int)) ∧ w = w') := by
        show ∀ w : World, _
        intro w; rw [hP]; exact Power_c n hw1 w
      obtain ⟨g, hg⟩ : ∃ g, g = getN x (ws.drop (j + 1)).sum n := ⟨_, rfl⟩
      have HRM : Hid (wrap64 ((v : Int) % (P : Int)) = (g : Int)) := by
        show _ = _
        rw [HV.out, hP, hg]
        exact rem_w64 _ _ _ hw1
      obtain ⟨v2, hv2⟩ : ∃ v2, v2 = v / P := ⟨_, rfl⟩
      have HQ : Hid (IntKind.u64.wrap ((v : Int) / (P : Int)) = (v2 : Int)) := by
        show _ = _
        rw [hv2, HV.out]; exact quo_u64 _ _ _ HX.out
      have HV2 : Hid (v2 = x / 2 ^ (ws.drop j).sum) := by
        show _ = _
        rw [hv2, HV.out, hP, quo_step, List.drop_eq_getElem_cons hjl, List.sum_cons, ← hn]
      have hlen : (fill x ws (j + 1)).length = N := by rw [fill_len x ws _ hjl]; exact HN.out.symm
      have co : wr.cell? ⟨w.heap.size, j, none⟩ = some (.int .i64 (((fill x ws (j + 1))[j]'(by omega) : Nat) : Int)) := by rw [cell_of_row _ _ _ _ _ _ HR.out]; exact ints_at (by omega)
      have cz : wr.frozen? ⟨w.heap.size, j, none⟩ = false := frozen_of_row _ _ _ _ _ HR.out
      have HR2 : Hid ((wr.setCell ⟨w.heap.size, j, none⟩ (.int .i64 (g : Int))).heap[w.heap.size]? = some (.cells (ints (fill x ws j)) 3 (0, 0))) := by
        show _ = _
        rw [setCell_eq_setRow _ _ _ _ _ _ _ HR.out, heap_setRow_same _ _ _ _ _ _ HR.out, ints_set, hg, hn, fill_set x ws j hjl]
      have hm2 : Made w (wr.setCell ⟨w.heap.size, j, none⟩ (.int .i64 (g : Int))) := Below.setCell hmr (Nat.le_refl _) _
      have cw2 := (hm2.cell hb).trans (HC.out j hjl)
      rw [← hn] at cw2
      generalize (fill x ws (j + 1))[j]'(by omega) = was at co
      have hj0 : ((j + 1 : Nat) : Int) - 1 = (j : Int) := by omega
      rw [hj0]
      have hj1 : (j : Int) < (N : Int) := by omega
      have hb1 : b ≠ w.heap.size := by omega
      clear hP hg hv2 hn hlen hw1 HV HR hjl
      go_wp2_with fail
      refine (HPC.out _).mono ?_
      rintro e w' ⟨rfl, rfl⟩
      go_wp2_with fail
      rw [HRM.out]
      refine (HPC.out _).mono ?_
      rintro e w' ⟨rfl, rfl⟩
      go_wp2_with fail
      go_roundw
      case rel => exact ⟨j, v2, by omega, by go_num, by first | rw [HQ.out] | (rw [← HQ.out]; go_num), HV2, HR2, hm2⟩
      case measure => simp [intOf]
end Go.Proofs.Ytdmjokkjhbdnnaa.Ref1
