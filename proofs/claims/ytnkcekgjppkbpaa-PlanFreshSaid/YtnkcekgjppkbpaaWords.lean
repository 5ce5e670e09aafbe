/- The words of states, homes, keys, heads and connections, and what stands in a word, walked. -/
import Derived.Test.YtnkcekgjppkbpaaWord
namespace Go.Proofs.Ytnkcekgjppkbpaa.Wd
open Go.RowKit Go.Proofs.Ytnkcekgjppkbpaa Go.Proofs.Ytnkcekgjppkbpaa.Num
set_option linter.unusedVariables false
set_option linter.unusedSimpArgs false

/-- A whole number of 64 bits. -/
def I64 (x : Int) : Prop := -9223372036854775808 ≤ x ∧ x ≤ 9223372036854775807

theorem pack3 (n1 n2 n3 : Nat) (x1 x2 x3 : Int) (hn : 1 ≤ n1 ∧ 1 ≤ n2 ∧ 1 ≤ n3 ∧ n1 + n2 + n3 ≤ 64) (h1 : I64 x1) (h2 : I64 x2) (h3 : I64 x3) (b1 b2 : Nat) (w : World)
    (c1 : w.cell? ⟨b1, 0, none⟩ = some (.int .i64 (n1 : Int))) (c2 : w.cell? ⟨b1, 1, none⟩ = some (.int .i64 (n2 : Int))) (c3 : w.cell? ⟨b1, 2, none⟩ = some (.int .i64 (n3 : Int)))
    (d1 : w.cell? ⟨b2, 0, none⟩ = some (.int .i64 x1)) (d2 : w.cell? ⟨b2, 1, none⟩ = some (.int .i64 x2)) (d3 : w.cell? ⟨b2, 2, none⟩ = some (.int .i64 x3)) :
    Calls Try.prog 88 #[.slice (some ⟨b1, 0, none⟩) 3 3, .slice (some ⟨b2, 0, none⟩) 3 3] w fun e w' =>
      e = .returned (.tuple #[.int .u64 ((packed [(n1, x1), (n2, x2), (n3, x3)]).1 : Int), .int .i64 (packed [(n1, x1), (n2, x2), (n3, x3)]).2]) ∧ w = w' := by
  refine pack_c [(n1, x1), (n2, x2), (n3, x3)] b1 b2 (by simp) ?_ ?_ ?_ w ?_ ?_
  · intro p hp; simp at hp; rcases hp with rfl | rfl | rfl <;> (dsimp only; omega)
  · intro p hp; simp at hp; rcases hp with rfl | rfl | rfl <;> assumption
  · simp; omega
  · intro k hk
    match k, hk with
    | 0, _ => exact c1
    | 1, _ => exact c2
    | 2, _ => exact c3
  · intro k hk
    match k, hk with
    | 0, _ => exact d1
    | 1, _ => exact d2
    | 2, _ => exact d3

theorem pack2 (n1 n2 : Nat) (x1 x2 : Int) (hn : 1 ≤ n1 ∧ 1 ≤ n2 ∧ n1 + n2 ≤ 64) (h1 : I64 x1) (h2 : I64 x2) (b1 b2 : Nat) (w : World)
    (c1 : w.cell? ⟨b1, 0, none⟩ = some (.int .i64 (n1 : Int))) (c2 : w.cell? ⟨b1, 1, none⟩ = some (.int .i64 (n2 : Int)))
    (d1 : w.cell? ⟨b2, 0, none⟩ = some (.int .i64 x1)) (d2 : w.cell? ⟨b2, 1, none⟩ = some (.int .i64 x2)) :
    Calls Try.prog 88 #[.slice (some ⟨b1, 0, none⟩) 2 2, .slice (some ⟨b2, 0, none⟩) 2 2] w fun e w' =>
      e = .returned (.tuple #[.int .u64 ((packed [(n1, x1), (n2, x2)]).1 : Int), .int .i64 (packed [(n1, x1), (n2, x2)]).2]) ∧ w = w' := by
  refine pack_c [(n1, x1), (n2, x2)] b1 b2 (by simp) ?_ ?_ ?_ w ?_ ?_
  · intro p hp; simp at hp; rcases hp with rfl | rfl <;> (dsimp only; omega)
  · intro p hp; simp at hp; rcases hp with rfl | rfl <;> assumption
  · simp; omega
  · intro k hk
    match k, hk with
    | 0, _ => exact c1
    | 1, _ => exact c2
  · intro k hk
    match k, hk with
    | 0, _ => exact d1
    | 1, _ => exact d2
theorem pack4 (n1 n2 n3 n4 : Nat) (x1 x2 x3 x4 : Int) (hn : 1 ≤ n1 ∧ 1 ≤ n2 ∧ 1 ≤ n3 ∧ 1 ≤ n4 ∧ n1 + n2 + n3 + n4 ≤ 64) (h1 : I64 x1) (h2 : I64 x2) (h3 : I64 x3) (h4 : I64 x4) (b1 b2 : Nat) (w : World)
    (c1 : w.cell? ⟨b1, 0, none⟩ = some (.int .i64 (n1 : Int))) (c2 : w.cell? ⟨b1, 1, none⟩ = some (.int .i64 (n2 : Int))) (c3 : w.cell? ⟨b1, 2, none⟩ = some (.int .i64 (n3 : Int))) (c4 : w.cell? ⟨b1, 3, none⟩ = some (.int .i64 (n4 : Int)))
    (d1 : w.cell? ⟨b2, 0, none⟩ = some (.int .i64 x1)) (d2 : w.cell? ⟨b2, 1, none⟩ = some (.int .i64 x2)) (d3 : w.cell? ⟨b2, 2, none⟩ = some (.int .i64 x3)) (d4 : w.cell? ⟨b2, 3, none⟩ = some (.int .i64 x4)) :
    Calls Try.prog 88 #[.slice (some ⟨b1, 0, none⟩) 4 4, .slice (some ⟨b2, 0, none⟩) 4 4] w fun e w' =>
      e = .returned (.tuple #[.int .u64 ((packed [(n1, x1), (n2, x2), (n3, x3), (n4, x4)]).1 : Int), .int .i64 (packed [(n1, x1), (n2, x2), (n3, x3), (n4, x4)]).2]) ∧ w = w' := by
  refine pack_c [(n1, x1), (n2, x2), (n3, x3), (n4, x4)] b1 b2 (by simp) ?_ ?_ ?_ w ?_ ?_
  · intro p hp; simp at hp; rcases hp with rfl | rfl | rfl | rfl <;> (dsimp only; omega)
  · intro p hp; simp at hp; rcases hp with rfl | rfl | rfl | rfl <;> assumption
  · simp; omega
  · intro k hk
    match k, hk with
    | 0, _ => exact c1
    | 1, _ => exact c2
    | 2, _ => exact c3
    | 3, _ => exact c4
  · intro k hk
    match k, hk with
    | 0, _ => exact d1
    | 1, _ => exact d2
    | 2, _ => exact d3
    | 3, _ => exact d4

set_option maxHeartbeats 400000 in
theorem StateWord_c (g t s : Int) (hg : I64 g) (ht : I64 t) (hs : I64 s) (w : World) : Calls Try.prog 79 #[.agg #[.int .i64 g, .int .i64 t, .int .i64 s]] w fun e w' =>
    e = .returned (.tuple #[.int .u64 ((packed [(32, g), (30, t), (2, s)]).1 : Int), .int .i64 (packed [(32, g), (30, t), (2, s)]).2]) ∧ Made w w' := by
  go_enter Try.func79, Try.ntmps79
  go_wp2_with fail
  refine (pack3 32 30 2 g t s (by omega) hg ht hs _ _ _ (by go_simp) (by go_simp) (by go_simp) (by go_simp) (by go_simp) (by go_simp)).mono ?_
  rintro e w' ⟨rfl, rfl⟩
  go_wp2_with fail
  go_ret2
  exact ⟨rfl, (((Made.refl _).alloc (Nat.le_refl _) _).alloc (by simp) _).alloc (by simp; omega) _⟩

/-- What a head's word is. -/
def headPacked (c i : Int) : Nat × Int := if i < -1 ∨ 4294967295 ≤ i then (0, 2) else packed [(32, c), (32, i + 1)]
set_option maxHeartbeats 400000 in
theorem HeadWord_c (c i : Int) (hc : I64 c) (hi : I64 i) (w : World) : Calls Try.prog 78 #[.agg #[.int .i64 c, .int .i64 i]] w fun e w' =>
    e = .returned (.tuple #[.int .u64 ((headPacked c i).1 : Int), .int .i64 (headPacked c i).2]) ∧ Made w w' := by
  by_cases h1 : i < -1
  · have hr : Hid (headPacked c i = (0, 2)) := by show _ = _; unfold headPacked; rw [if_pos (Or.inl h1)]
    go_enter Try.func78, Try.ntmps78
    go_wp2_with fail
    go_ret2
    exact ⟨ret2_of (by rw [hr.out]; rfl) (by rw [hr.out]), (Made.refl _).alloc (Nat.le_refl _) _⟩
  · by_cases h2 : 4294967295 ≤ i
    · have hr : Hid (headPacked c i = (0, 2)) := by show _ = _; unfold headPacked; rw [if_pos (Or.inr h2)]
      go_enter Try.func78, Try.ntmps78
      go_wp2_with fail
      go_ret2
      exact ⟨ret2_of (by rw [hr.out]; rfl) (by rw [hr.out]), (Made.refl _).alloc (Nat.le_refl _) _⟩
    · have hr : Hid (headPacked c i = packed [(32, c), (32, i + 1)]) := by show _ = _; unfold headPacked; rw [if_neg (by omega)]
      have hi1 : I64 (i + 1) := by unfold I64; omega
      go_enter Try.func78, Try.ntmps78
      go_wp2_with fail
      refine (pack2 32 32 c (i + 1) (by omega) hc hi1 _ _ _ (by go_simp) (by go_simp) (by go_simp) (by go_simp)).mono ?_
      rintro e w' ⟨rfl, rfl⟩
      go_wp2_with fail
      go_ret2
      exact ⟨ret2_of (by rw [hr.out]) (by rw [hr.out]), (((Made.refl _).alloc (Nat.le_refl _) _).alloc (by simp) _).alloc (by simp; omega) _⟩

/-- What stands in a word, the highest first. -/
def spreadAt (x : Nat) (ns : List Nat) (k : Nat) : Nat := getN x (64 - (ns.take (k + 1)).sum) (ns[k]?.getD 0)
def spreadTo (x : Nat) (ns : List Nat) (k : Nat) : Array Value := ((List.range 4).map fun i => Value.int .i64 (if i < k then (spreadAt x ns i : Int) else 0)).toArray

set_option maxHeartbeats 1000000 in
theorem spread_c (x : Nat) (ns : List Nat) (b1 : Nat) (hx : x < 2 ^ 64) (h4 : ns.length ≤ 4) (hw : ∀ n ∈ ns, 1 ≤ n ∧ n ≤ 63) (hs : ns.sum ≤ 64) (w : World)
    (hc1 : ∀ k (h : k < ns.length), w.cell? ⟨b1, k, none⟩ = some (.int .i64 (ns[k] : Int))) (hb1 : b1 < w.heap.size) :
    Calls Try.prog 80 #[.int .u64 x, .slice (some ⟨b1, 0, none⟩) ns.length ns.length] w fun e w' =>
      e = .returned (.agg (spreadTo x ns ns.length)) ∧ Made w w' := by
  obtain ⟨N, hN⟩ : ∃ N, N = ns.length := ⟨_, rfl⟩
  rw [← hN] at h4 ⊢
  have HC1 := Lib.hid hc1
  have HW := Lib.hid hw
  have HN := Lib.hid hN
  clear hc1 hw hN
  go_enter Try.func80, Try.ntmps80
  go_wp2
  go_loopw [5, 10] (fun v5 v10 wr => ∃ (k s : Nat), k ≤ N ∧ v10 = .int .i64 k ∧ v5 = .int .i64 s ∧ Hid (s = 64 - (ns.take k).sum) ∧ s ≤ 64 ∧ Below w.heap.size w wr ∧ w.heap.size < wr.heap.size ∧
      Hid (wr.heap[w.heap.size]? = some (.cells (spreadTo x ns k) 114 (0, 0)))) (fun _ i _ => (N - intOf i).toNat)
  case atStart =>
    refine ⟨0, 64, by omega, rfl, rfl, (show _ = _ by simp), by omega, (Below.refl _ _).alloc (Nat.le_refl _) _, by simp, ?_⟩
    show _ = _
    rw [heap_alloc_new]
    simp [spreadTo, List.range, List.range.loop]
  case round =>
    obtain ⟨k, s, hk, rfl, rfl, HS, hs64, hB, hsz, H1⟩ := hrel
    by_cases hkN : k < N
    · have hkl : k < ns.length := by have := HN.out; omega
      have hc1 : wr.cell? ⟨b1, k, none⟩ = some (.int .i64 (ns[k] : Int)) := (hB.cell (p := ⟨b1, k, none⟩) hb1).trans (HC1.out k hkl)
      have hn := HW.out ns[k] (List.getElem_mem hkl)
      have hsum : (ns.take (k + 1)).sum = (ns.take k).sum + ns[k] := by rw [List.take_succ_eq_append_getElem hkl, List.sum_append, List.sum_cons, List.sum_nil, Nat.add_zero]
      have hle : (ns.take (k + 1)).sum ≤ ns.sum := by
        have := List.take_append_drop (k + 1) ns
        have h2 : ns.sum = (ns.take (k + 1)).sum + (ns.drop (k + 1)).sum := by rw [← List.sum_append, this]
        omega
      have hat : spreadAt x ns k = getN x (s - ns[k]) ns[k] := by
        unfold spreadAt
        rw [hsum, HS.out, List.getElem?_eq_getElem hkl, Option.getD_some, Nat.sub_sub]
      obtain ⟨n, hne⟩ : ∃ n, n = ns[k] := ⟨_, rfl⟩
      rw [← hne] at hc1 hn hat hsum
      have HS' : Hid (s - n = 64 - (ns.take (k + 1)).sum) := by show _ = _; rw [hsum, HS.out, Nat.sub_sub]
      have hsn : n ≤ s := by have := HS.out; omega
      clear hne hsum hle
      have hm : ∀ w : World, Calls Try.prog 89 #[.int .i64 (n : Int)] w fun e w' => e = .returned (.int .u64 (ones n)) ∧ w = w' := fun w => mask_c n (by omega) (by omega) w
      have HM := Lib.hid hm
      clear hm
      obtain ⟨g, hge⟩ : ∃ g, g = getN x (s - n) n := ⟨_, rfl⟩
      have hglt : g < 2 ^ n := by rw [hge]; exact getN_lt _ _ _
      have hg63 : g < 9223372036854775808 := Nat.lt_of_lt_of_le hglt (Nat.le_trans (Nat.pow_le_pow_right (n := 2) (by decide) hn.2) (by decide))
      have hgi := Lib.hid (get_int x (s - n) n hx (by omega))
      rw [← hge] at hgi hat
      have HAT := Lib.hid hat
      clear hat hge hglt
      have hkk : k < 4 := by omega
      have hcc : wr.cell? ⟨w.heap.size, k, none⟩ = some (.int .i64 0) := by
        rw [cell_of_row _ _ _ _ _ _ H1.out]
        simp [spreadTo, hkk]
      have hff : wr.frozen? ⟨w.heap.size, k, none⟩ = false := frozen_of_row _ _ _ _ _ H1.out
      have hk0 : 0 ≤ (k : Int) := by omega
      have hk4 : (k : Int) < 4 := by omega
      go_wp2
      go_region_with (first | (go_at_call 89; refine (HM.out _).mono ?_; rintro e w' ⟨rfl, rfl⟩))
      go_wp2
      go_roundw
      case rel =>
        have hval : wrap64 (bits .and .u64 ((x : Int) / 2 ^ (s - n)) (ones n : Int)) = (g : Int) := by rw [hgi.out]; exact IntWalk.wrap64_in _ (by omega)
        refine ⟨k + 1, s - n, by omega, by go_num, by go_num, HS', by omega, ?_, ?_, ?_⟩
        · first | exact (Below.drew hB).setCell (by simp) _ | exact (hB.setCell (by simp) _).drew
        · first | exact hsz | simpa using hsz
        · show _ = _
          have hcells : (spreadTo x ns k).setIfInBounds k (.int .i64 (g : Int)) = spreadTo x ns (k + 1) := by
            rw [← HAT.out]
            apply Array.ext_getElem?
            intro i
            rw [Array.getElem?_setIfInBounds]
            by_cases hi : i < 4
            · by_cases e : k = i
              · subst e; simp [spreadTo, hi]
              · rw [if_neg e]
                simp only [spreadTo, List.getElem?_toArray, List.getElem?_map, List.getElem?_range hi]
                by_cases h1 : i < k
                · simp [h1, show i < k + 1 by omega]
                · simp [h1, show ¬ i < k + 1 by omega]
            · have hsz4 : ∀ j, (spreadTo x ns j).size = 4 := fun j => by simp [spreadTo]
              rw [if_neg (by omega), Array.getElem?_eq_none (by rw [hsz4]; omega), Array.getElem?_eq_none (by rw [hsz4]; omega)]
          rw [← hcells, ← hval]
          first | exact heap_setCell_same _ _ _ _ _ _ H1.out | exact (heap_setCell_same _ _ _ _ _ _ H1.out)
      case measure => simp [intOf]; omega
    · obtain rfl : k = N := by omega
      have hsz4 : (spreadTo x ns k).size = 4 := by simp [spreadTo]
      have hinfo : (Try.prog.info? 114).map (·.size) = some (spreadTo x ns k).size := by rw [hsz4]; kernel_rfl
      have hone : (spreadTo x ns k).all (·.oneCell') = true := by
        rw [Array.all_eq_true_iff_forall_mem]
        intro y hy
        simp only [spreadTo, List.mem_toArray, List.mem_map] at hy
        obtain ⟨i, _, rfl⟩ := hy
        rfl
      have HI := Lib.hid hinfo
      have HO := Lib.hid hone
      clear hinfo hone hsz4
      go_wp2_with (first | (refine wpList_load_row rfl 114 (.tmp 4) rfl w.heap.size (by simp [Act.eval, Act.put]) 114 (spreadTo x ns k) (0, 0) _ H1.out Try.underlying114 rfl HI.out ?_) | (refine wpList_store_row rfl 114 (.tmp 4) (.tmp 28) rfl w.heap.size (spreadTo x ns k) (by simp [Act.eval, Act.put]) (by simp [Act.eval, Act.put]) 114 (spreadTo x ns k) H1.out HI.out rfl HO.out ?_))
      exact bodyPost_ret (v := .agg (spreadTo x ns k)) (results_cell_row rfl _ _ w.heap.size 114 (spreadTo x ns k) (0, 0) _ (by simp [Act.put]) (heap_setRow_same _ _ _ _ _ _ H1.out) Try.underlying114 rfl HI.out) rfl
        ⟨rfl, Go.Proofs.Ytnkcekgjppkbpaa.Below.setRow hB (Nat.le_refl _) _⟩
end Go.Proofs.Ytnkcekgjppkbpaa.Wd
