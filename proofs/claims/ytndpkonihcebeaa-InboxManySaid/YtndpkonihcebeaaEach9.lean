/- The document's Each (knellref08.Each), walked, for layer 9's laws. -/
import Derived.Test.YtndpkonihcebeaaRef9
import Derived.StillTailTactics
import Derived.OwnWalk
namespace Go.Proofs.Ytndpkonihcebeaa.Kod.Nine
open Go.RowKit Go.Proofs.Ytndpkonihcebeaa Go.Proofs.Ytndpkonihcebeaa.Cell Go.Proofs.Ytndpkonihcebeaa.Wd
set_option linter.unusedVariables false
set_option linter.unusedSimpArgs false

/-- The numbers below one. -/
def nums (k : Nat) : List Int := (List.range k).map fun (i : Nat) => (i : Int)
theorem nums_len (k : Nat) : (nums k).length = k := by simp [nums]
theorem nums_rng {k : Nat} {i : Int} (h : i ∈ nums k) : 0 ≤ i ∧ i < k := by
  simp only [nums, List.mem_map, List.mem_range] at h
  obtain ⟨j, hj, rfl⟩ := h
  omega
theorem nums_once (k : Nat) : (nums k).Nodup := by
  unfold nums List.Nodup
  rw [List.pairwise_map]
  have h : List.Pairwise (fun a b => a ≠ b) (List.range k) := List.nodup_range
  exact h.imp fun h e => h (by omega)
theorem elem_intb : Elem Try.prog 23 3 (.int .i64 0) 8 := elem_int9
theorem ints_oneb (xs : List Int) : ∀ u ∈ xs.map (Value.int .i64), u.oneCell' = true := ints_one9 xs
theorem count_one : ∀ {l : List Int} {a : Int}, l.Nodup → a ∈ l → l.count a = 1
  | [], a, _, h => by simp at h
  | x :: t, a, hn, h => by
    obtain ⟨h1, h2⟩ := List.nodup_cons.1 hn
    by_cases hx : x = a
    · subst hx
      rw [List.count_cons_self, List.count_eq_zero.2 h1]
    · rw [List.count_cons_of_ne hx]
      rcases List.mem_cons.1 h with e | e
      · exact absurd e.symm hx
      · exact count_one h2 e
/-- How often each number stands in a list. -/
def tally (K : Nat) (zs : List Int) : List Value := (List.range K).map fun (j : Nat) => Value.int .i64 ((zs.count (j : Int) : Nat) : Int)
theorem tally_nil (K : Nat) : tally K [] = List.replicate K (.int .i64 0) := by
  unfold tally
  apply List.ext_getElem
  · simp
  · intro i h1 h2
    simp
theorem tally_snoc (K : Nat) (zs : List Int) (v : Nat) : (tally K zs).set v (.int .i64 (((zs.count (v : Int) : Nat) : Int) + 1)) = tally K (zs ++ [(v : Int)]) := by
  unfold tally
  apply List.ext_getElem
  · simp
  · intro i h1 h2
    simp only [List.getElem_set, List.getElem_map, List.getElem_range, List.count_append]
    by_cases h : v = i
    · subst h
      simp
    · have : ((v : Int) == (i : Int)) = false := by simp; omega
      simp [h, List.count_cons, this]
theorem tally_at {K v : Nat} (zs : List Int) (h : v < K) : (tally K zs)[v]? = some (.int .i64 ((zs.count (v : Int) : Nat) : Int)) := by simp [tally, h]
theorem made_ints (n : Nat) : madeCells (Value.int .i64 0).cells n = (List.replicate n (Value.int .i64 0)).toArray := by
  unfold madeCells
  apply Array.ext
  · simp
  · intro k h1 h2
    simp [Value.cells, Nat.mod_one]
theorem ints_infob : (Try.prog.info? 3).map (fun i => (i.zero, i.size, i.bytes)) = some (some (.int .i64 0), 1, 8) := by kernel_rfl
theorem make_ints (n : Nat) (h : n ≤ 1048576) (w : World) : (Instr.makeSlice 23 (.int .i64 (n : Int)) (.int .i64 (n : Int))).run Try.prog w =
    .ok (.slice (some ⟨w.heap.size, 0, none⟩) n n) (w.alloc (.cells (List.replicate n (Value.int .i64 0)).toArray 3)) := by
  obtain ⟨i, hi, hq⟩ := Option.map_eq_some_iff.1 ints_infob
  simp only [Prod.mk.injEq] at hq
  obtain ⟨hz, hs, hb⟩ := hq
  have := run_makeSlice (P := Try.prog) w 23 3 i _ (by kernel_rfl) hi hz .i64 .i64 n n (by omega) (by omega) (by rw [hs]; simp; omega) (by rw [hb]; omega) (by omega)
  rw [this, hs]
  simp only [Int.toNat_natCast, Nat.mul_one]
  rw [made_ints]
set_option maxRecDepth 100000 in
set_option maxHeartbeats 2000000 in
theorem Each_c (A A' : Option Addr) (na nb c c' K : Nat) (xs ys : List Int) (hK : K ≤ 100) (w : World) (ha : Reads w A na (xs.map (Value.int .i64))) (hb : Reads w A' nb (ys.map (Value.int .i64))) (hp : (xs ++ ys).Perm (nums K)) :
    Calls Try.prog 28 #[.slice A na c, .slice A' nb c', .int .i64 (K : Int)] w fun e w' => e = .returned (.bool true) ∧ Made w w' := by
  have HE := Lib.hid elem_intb
  have hmk := make_ints K (by omega)
  have hlen : na + nb = K := by
    have h1 := hp.length_eq
    have h2 := ha.1
    have h3 := hb.1
    rw [nums_len] at h1
    simp at h1 h2 h3
    omega
  have HL := Lib.hid hlen
  obtain ⟨zs, hzs⟩ : ∃ zs, zs = xs ++ ys := ⟨_, rfl⟩
  have HZ := Lib.hid hzs
  have HP : Hid (zs.Perm (nums K)) := by show List.Perm _ _; rw [hzs]; exact hp
  have HA := Lib.hid ha
  have HB := Lib.hid hb
  clear ha hb hp hlen hzs
  go_enter Try.func28, Try.ntmps28
  go_upto_region 2 with fail
  have HMa : Hid (Below (w.heap.size + 1) (w.alloc (.cells (Array.replicate K (Value.int .i64 0)) 3)) ((w.alloc (.cells (Array.replicate K (Value.int .i64 0)) 3)).alloc (.cells #[] 3))) := (Below.refl _ _).alloc (by simp only [World.size_alloc]; omega) _
  have HOW1 : Hid (((w.alloc (.cells (Array.replicate K (Value.int .i64 0)) 3)).alloc (.cells #[] 3)).ownsRow (w.heap.size + 1) 3 1 (.slice (some ⟨w.heap.size + 1, 0, none⟩) 0 0) 0 []) := by
    have h := World.ownsRow_made (e := 3) (base := w.heap.size + 1) (size := 1) (w.alloc (.cells (Array.replicate K (Value.int .i64 0)) 3)) #[] 0 (by simp only [World.size_alloc]; omega) (by unfold maxLen; omega) rfl
    simp only [World.size_alloc] at h
    exact h
  have HRD1 : Hid (Reads ((w.alloc (.cells (Array.replicate K (Value.int .i64 0)) 3)).alloc (.cells #[] 3)) A na (xs.map (Value.int .i64))) := reads_later (reads_later HA.out)
  have HNN : Hid (na ≤ 100 ∧ nb ≤ 100) := by show _ ∧ _; have := HL.out; omega
  have HMx : Hid (∀ (w5 : World) (r : Option Nat), ((w.alloc (.cells (Array.replicate K (Value.int .i64 0)) 3)).alloc (.cells #[] 3)).grownBy w5 r → (∀ j, r = some j → w.heap.size + 1 ≤ j) → Below (w.heap.size + 1) (w.alloc (.cells (Array.replicate K (Value.int .i64 0)) 3)) w5 ∧ Reads w5 A' nb (ys.map (Value.int .i64)) ∧ w.heap.size + 1 ≤ w5.heap.size) := by
    show ∀ (w5 : World) (r : Option Nat), _
    intro w5 r hg hr
    have h1 := HMa.out.grown hg (by simp only [World.size_alloc]; omega) hr
    have h2 : Below w.heap.size w w5 := (((Below.refl w.heap.size w).alloc (Nat.le_refl _) (.cells (Array.replicate K (Value.int .i64 0)) 3))).trans (h1.mono (by omega))
    refine ⟨h1, reads_made HB.out h2, ?_⟩
    have := h1.size
    simp only [World.size_alloc] at this
    omega
  have HZ0 : Hid (∀ (w5 : World) (A5 : Option Addr) (c5 : Nat) (vs : List Value), w5.ownsRow (w.heap.size + 1) 3 1 (.slice A5 (0 + na) c5) (0 + na) ([] ++ vs) → w5.ownsRow (w.heap.size + 1) 3 1 (.slice A5 na c5) na vs) := by
    show ∀ (w5 : World) (A5 : Option Addr) (c5 : Nat) (vs : List Value), _
    intro w5 A5 c5 vs h
    rw [Nat.zero_add, List.nil_append] at h
    exact h
  go_wp2_with (first | (at_builtin; (refine wpList_app _ rfl (.tmp 13) (.tmp 14) 23 rfl (w.heap.size + 1) 3 (.int .i64 0) 8 HE.out (.slice (some ⟨w.heap.size + 1, 0, none⟩) 0 0) 0 [] (by simp [Act.eval, Act.put]) HOW1.out A na c (xs.map (Value.int .i64)) (by simp [Act.eval, Act.put]) HRD1.out (ints_oneb xs) (by have := HNN.out; unfold maxLen; omega) (by have := HNN.out; omega) (by simp only [World.size_alloc]; omega) ?_; intro A5 c5 w5 hown hgrow hat; have HO5 := Lib.hid (HZ0.out w5 A5 c5 _ hown); have HG5 := Lib.hid (HMx.out w5 _ hgrow (fun j ej => by (obtain rfl : w.heap.size + 1 = j := by (simpa [Value.ownBlock] using ej)); exact Nat.le_refl _)); clear hown hgrow hat)) | (at_builtin; (refine wpList_app _ rfl (.tmp 15) (.tmp 16) 23 rfl (w.heap.size + 1) 3 (.int .i64 0) 8 HE.out (.slice A5 na c5) na (xs.map (Value.int .i64)) (by simp [Act.eval, Act.put]) HO5.out A' nb c' (ys.map (Value.int .i64)) (by simp [Act.eval, Act.put]) HG5.out.2.1 (ints_oneb ys) (by have := HNN.out; unfold maxLen; omega) (by have := HNN.out; omega) HG5.out.2.2 ?_; intro A6 c6 w6 hown hgrow hat; have HO6 := Lib.hid hown; have HG6 := Lib.hid (Below.grown HG5.out.1 hgrow HG5.out.2.2 (fun j ej => (HO5.out.lt j ej).1)); clear hown hgrow hat)))
  rw [HL.out]
  have hzm : zs.map (Value.int .i64) = xs.map (Value.int .i64) ++ ys.map (Value.int .i64) := by rw [HZ.out, List.map_append]
  have hzl : zs.length = K := by have := HP.out.length_eq; rw [nums_len] at this; exact this
  have HZR : Hid (Reads w6 A6 K (zs.map (Value.int .i64))) := by
    have h := HO6.out
    rw [HL.out, ← hzm] at h
    exact reads_own h
  have HC0 : Hid (w6.heap[w.heap.size]? = some (.cells (tally K (zs.take 0)).toArray 3 (0, 0))) := by
    show _ = _
    rw [HG6.out.block _ (Nat.lt_succ_self _), heap_alloc_new, List.take_zero, tally_nil]
    simp
  have HBK : Hid (∀ d : Addr, A6 = some d → w.heap.size + 1 ≤ d.block) := by
    show ∀ d : Addr, _
    intro d hd
    exact (HO6.out.lt d.block (by rw [hd]; rfl)).1
  have HZL := Lib.hid hzl
  have HF6 : Hid (Made w w6) := (((Below.refl w.heap.size w).alloc (Nat.le_refl _) (.cells (Array.replicate K (Value.int .i64 0)) 3))).trans (HG6.out.mono (by omega))
  have hs6 : w.heap.size < w6.heap.size := (Array.getElem?_eq_some_iff.1 HC0.out).1
  clear hzm hzl HO6 HG6 HO5 HG5 HMx HZ0 HRD1 HOW1 HMa HNN hmk
  go_loopw [9] (fun iv wr => ∃ (i : Nat), iv = .int .i64 (i : Int) ∧ i ≤ K ∧ Hid (wr.heap[w.heap.size]? = some (.cells (tally K (zs.take i)).toArray 3 (0, 0))) ∧ Hid (Wrote (fun k => k = w.heap.size) w6 wr)) (fun iv _ => (K - intOf iv).toNat)
  case atStart => exact ⟨0, rfl, by omega, HC0, Wrote.of_made (Made.refl _)⟩
  case round =>
    obtain ⟨i, rfl, hi, HC, HW⟩ := hrel
    by_cases hlt : i < K
    · have hil : i < zs.length := by have := HZL.out; omega
      have hmem := HP.out.mem_iff.1 (List.getElem_mem hil)
      obtain ⟨hz0, hzK⟩ := nums_rng hmem
      obtain ⟨v, hv⟩ := Int.eq_ofNat_of_zero_le hz0
      have hvK : v < K := by omega
      obtain ⟨d, rfl, hd⟩ := HZR.out.2 i (.int .i64 (v : Int)) (by simp [hil, hv])
      have hdb := Go.block_lt_of_cell hd
      have hdk := HBK.out d rfl
      have cA : wr.cell? (d.add i) = some (.int .i64 (v : Int)) := by
        rw [← hd]
        refine World.cell?_of_block ?_
        rw [addr_block] at hdb ⊢
        exact HW.out.block _ hdb (by omega)
      obtain ⟨q, hq⟩ : ∃ q : Nat, q = (zs.take i).count (v : Int) := ⟨_, rfl⟩
      have hqb : q ≤ i := by rw [hq]; exact Nat.le_trans List.count_le_length (by simp; omega)
      have cC : wr.cell? ⟨w.heap.size, v, none⟩ = some (.int .i64 (q : Int)) := by
        rw [cell_of_row _ _ _ _ _ _ HC.out, hq]
        simpa using tally_at (zs.take i) hvK
      have zC : wr.frozen? ⟨w.heap.size, v, none⟩ = false := frozen_of_row _ _ _ _ _ HC.out
      have i0 : (0 : Int) ≤ (i : Int) := by omega
      have i1 : (i : Int) < (K : Int) := by omega
      have v0 : (0 : Int) ≤ (v : Int) := by omega
      have v1 : (v : Int) < (K : Int) := by omega
      have q0 : (0 : Int) ≤ (q : Int) := by omega
      have q1 : (q : Int) ≤ 100 := by omega
      have HNX : Hid ((tally K (zs.take i)).set v (.int .i64 ((q : Int) + 1)) = tally K (zs.take (i + 1))) := by
        show _ = _
        rw [hq, tally_snoc, List.take_succ_eq_append_getElem hil, hv]
      clear hd hdb hdk hq hv hz0 hzK hmem hil
      go_upto_region 8 with fail
      go_still_tail 14, (by kernel_rfl)
      have HC2 : Hid (wr.drew.heap[w.heap.size]? = some (.cells (tally K (zs.take i)).toArray 3 (0, 0))) := HC.out
      have HW2 : Hid (Wrote (fun k => k = w.heap.size) w6 wr.drew) := HW.out.trans (Wrote.of_made (Made.drewN wr 1))
      have cC2 : wr.drew.cell? ⟨w.heap.size, v, none⟩ = some (.int .i64 (q : Int)) := cC
      have zC2 : wr.drew.frozen? ⟨w.heap.size, v, none⟩ = false := zC
      change wpList _ _ _ _ _ wr.drew
      generalize wr.drew = w7 at *
      clear cC zC cA HC HW
      go_wp2_with fail
      have HC8 : Hid ((w7.setCell ⟨w.heap.size, v, none⟩ (.int .i64 ((q : Int) + 1))).heap[w.heap.size]? = some (.cells (tally K (zs.take (i + 1))).toArray 3 (0, 0))) := by
        show _ = _
        rw [row_set HC2.out, ← HNX.out]
        simp
      have HW8 : Hid (Wrote (fun k => k = w.heap.size) w6 (w7.setCell ⟨w.heap.size, v, none⟩ (.int .i64 ((q : Int) + 1)))) := HW2.out.trans (Wrote.set _ _ _ _)
      go_roundw
      case rel => exact ⟨i + 1, by go_num, by omega, HC8, HW8⟩
      case measure => simp [intOf]; omega
    · obtain rfl : i = K := by omega
      have HC9 : Hid (wr.heap[w.heap.size]? = some (.cells (tally i zs).toArray 3 (0, 0))) := by
        have h := HC.out
        rw [List.take_of_length_le (by have := HZL.out; omega)] at h
        exact h
      have HF9 : Hid (Made w wr) := by
        have h := HW.out.below (B := w.heap.size) (fun k hk => by omega) (by omega)
        exact Below.trans HF6.out h
      clear HC HW HC0
      go_wp2_with fail
      go_loopw [10] (fun jv wz => ∃ (j : Nat), jv = .int .i64 (j : Int) ∧ j ≤ i ∧ Hid (wz = wr)) (fun jv _ => (i - intOf jv).toNat)
      case atStart => exact ⟨0, rfl, by omega, Lib.hid rfl⟩
      case round =>
        obtain ⟨j, rfl, hj, HWZ⟩ := hrel
        rw [← HWZ.out] at HC9 HF9
        by_cases hlt2 : j < i
        · have cJ : wr.cell? ⟨w.heap.size, j, none⟩ = some (.int .i64 1) := by
            rw [cell_of_row _ _ _ _ _ _ HC9.out]
            have h1 := tally_at zs hlt2
            have h2 : zs.count (j : Int) = 1 := by
              rw [HP.out.count_eq]
              have hm : (j : Int) ∈ nums i := by
                unfold nums
                exact List.mem_map.2 ⟨j, List.mem_range.2 hlt2, rfl⟩
              exact count_one (nums_once i) hm
            rw [h2] at h1
            simpa using h1
          have j0 : (0 : Int) ≤ (j : Int) := by omega
          have j1 : (j : Int) < (i : Int) := by omega
          go_wp2_with fail
          go_roundw
          case rel => exact ⟨j + 1, by go_num, by omega, HWZ⟩
          case measure => simp [intOf]; omega
        · obtain rfl : j = i := by omega
          go_wp2_with fail
          go_ret
          exact ⟨rfl, HF9.out⟩

end Go.Proofs.Ytndpkonihcebeaa.Kod.Nine
