/- Package knellref06, walked: List; knellref04.Same. -/
import Derived.Test.YthllplocbciepaaRef6c
namespace Go.Proofs.Ythllplocbciepaa.Ref6
open Go.RowKit Go.Proofs.Ythllplocbciepaa Go.Proofs.Ythllplocbciepaa.Num Go.Proofs.Ythllplocbciepaa.SetN Go.Proofs.Ythllplocbciepaa.Bits Go.Proofs.Ythllplocbciepaa.Law6
set_option linter.unusedVariables false
set_option linter.unusedSimpArgs false

/-- The slots below one that a row has. -/
def upF (f : Nat → Bool) (k : Nat) : List Nat := (List.range k).filter f
theorem upF_yes {f : Nat → Bool} {k : Nat} (h : f k = true) : upF f (k + 1) = upF f k ++ [k] := by unfold upF; rw [List.range_succ, List.filter_append]; simp [h]
theorem upF_no {f : Nat → Bool} {k : Nat} (h : f k = false) : upF f (k + 1) = upF f k := by unfold upF; rw [List.range_succ, List.filter_append]; simp [h]
theorem upF_len (f : Nat → Bool) (k : Nat) : (upF f k).length ≤ k := by
  unfold upF; have := List.length_filter_le f (List.range k); simpa using this
theorem upS_eq (s : Nat) : ∀ d a, upS s a d = (List.range' a d).filter s.testBit
  | 0, a => by simp [upS]
  | d + 1, a => by
    rw [upS, List.range'_succ, List.filter_cons, upS_eq s d (a + 1)]
theorem upF_slots (s : Nat) : upF s.testBit 64 = slotsOf s := by
  unfold upF slotsOf fromS; rw [upS_eq, List.range_eq_range']
theorem app_below {W w1 : World} {base : Nat} {v : Value} {k : Nat} {xs : List Value} {tmp : Obj} (hrow : W.ownsRow base 3 1 v k xs) (hb : base ≤ W.heap.size) (hgrow : (W.alloc tmp).grownBy w1 v.ownBlock) : Below base W w1 := by
  refine (((Below.refl base W).alloc hb tmp).grown hgrow (by simp; omega) fun j ej => ?_)
  rcases hrow.2 with ⟨rfl, _⟩ | ⟨g, cap, cur, rfl, hb, _, _⟩
  · simp [Value.ownBlock] at ej
  · obtain rfl : g = j := by simpa [Value.ownBlock] using ej
    exact hb
theorem own_none (w : World) (base : Nat) (hb : base ≤ w.heap.size) : (w.alloc (.cells #[] 3)).ownsRow base 3 1 (.slice (some ⟨w.heap.size, 0, none⟩) 0 0) 0 [] :=
  ⟨rfl, .inr ⟨_, 0, #[], rfl, hb, Go.heap_alloc_new w _, Nat.le_refl _, by unfold maxLen; omega, rfl, rfl⟩⟩
theorem lit_news (w : World) (x : Int) (j : Nat) (u : Value) (hu : [Value.int .i64 x][j]? = some u) : (w.alloc (.cells #[.int .i64 x] 3)).cell? ((⟨w.heap.size, 0, none⟩ : Addr).add j) = some u := by
  have hj : j < 1 := by
    have := (List.getElem?_eq_some_iff.1 hu).1
    simpa using this
  obtain rfl : j = 0 := by omega
  rw [add_nought, cell_of_row _ _ _ _ _ _ (Go.heap_alloc_new w _)]
  exact hu

set_option maxRecDepth 100000 in
set_option maxHeartbeats 2000000 in
theorem List_own (f : Nat → Bool) (w : World) : Calls Try.prog 32 #[.agg (brow f)] w fun e w' => ∃ v, e = .returned v ∧ w'.ownsRow (w.heap.size + 1) 3 1 v (upF f 64).length (vals (upF f 64)) ∧ Made w w' := by
  obtain ⟨iu, hi, hz0⟩ := Option.map_eq_some_iff.1 Bits.int_info
  simp only [Prod.mk.injEq] at hz0
  obtain ⟨hz0, hz1, hz2⟩ := hz0
  have HI := Lib.hid (And.intro hi (And.intro hz0 (And.intro hz1 hz2)))
  clear hi hz0 hz1 hz2
  obtain ⟨R, hR⟩ : ∃ R, R = brow f := ⟨_, rfl⟩
  have HR := Lib.hid hR
  rw [← hR]
  clear hR
  go_enter Try.func32, Try.ntmps32
  go_wp2_with fail
  go_loopw [3, 4] (fun v i wr => ∃ k : Nat, k ≤ 64 ∧ i = .int .i64 k ∧ Hid (wr.ownsRow (w.heap.size + 1) 3 1 v (upF f k).length (vals (upF f k))) ∧ Hid (Below (w.heap.size + 1) (w.alloc (.cells R 37)) wr)) (fun _ i _ => (64 - intOf i).toNat)
  case atStart =>
    refine ⟨0, by omega, rfl, ?_, ?_⟩
    · have := own_none (w.alloc (.cells R 37)) (w.heap.size + 1) (by simp)
      rw [show (w.alloc (.cells R 37)).heap.size = w.heap.size + 1 by simp] at this
      exact this
    · exact Below.alloc (Below.refl _ _) (by simp) _
  case round =>
    obtain ⟨k, hk, rfl, HO, HB⟩ := hrel
    have hsz : w.heap.size + 1 ≤ wr.heap.size := by have := HB.out.size; simpa using this
    by_cases hlt : k < 64
    · have hc : wr.cell? ⟨w.heap.size, k, none⟩ = some (.bool (f k)) := by
        rw [HB.out.cell (p := ⟨w.heap.size, k, none⟩) (by simp), cell_of_row _ _ _ _ _ _ (Go.heap_alloc_new w _), HR.out, brow_get _ _ hlt]
      have hk1 : (k : Int) < 64 := by omega
      have hl := upF_len f k
      obtain ⟨fk, hfk⟩ : ∃ b, b = f k := ⟨_, rfl⟩
      rw [← hfk] at hc
      have HFK := Lib.hid hfk
      clear hfk
      cases fk
      · go_wp2_with fail
        go_roundw
        case rel => exact ⟨k + 1, by omega, by go_num, by show World.ownsRow _ _ _ _ _ _ _; rw [upF_no HFK.out.symm]; exact HO.out, HB⟩
        case measure => simp [intOf]; omega
      · generalize hn : (upF f k).length = n at HO hl
        have HNN := Lib.hid hn
        clear hn
        rename_i v0
        go_wp2_with (at_builtin; (refine wpList_append_own _ rfl (.tmp 13) (.tmp 15) 32 rfl (w.heap.size + 1) 3 iu (.int .i64 0) 1 8 Try.underlying32 HI.out.1 HI.out.2.1 HI.out.2.2.1 HI.out.2.2.2 rfl (by decide) _ n (vals (upF f k)) (by simp [Act.eval, Act.put]) (World.ownsRow.alloc HO.out _) ⟨wr.heap.size, 0, none⟩ 1 1 [.int .i64 (k : Int)] (by simp [Act.eval, Act.put]) rfl (lit_news _ _) (by simp [Value.oneCell']) (by unfold maxLen; omega) (by omega) (by simp; omega) ?_; intro v' w2 hown hgrow _))
        have HB2 : Hid (Below (w.heap.size + 1) (w.alloc (.cells R 37)) w2) := HB.out.trans (app_below HO.out hsz hgrow)
        have HO2 : Hid (w2.ownsRow (w.heap.size + 1) 3 1 v' (upF f (k + 1)).length (vals (upF f (k + 1)))) := by
          show World.ownsRow _ _ _ _ _ _ _
          rw [upF_yes HFK.out.symm, vals_snoc, List.length_append, HNN.out]; exact hown
        clear hown hgrow
        go_wp2_with fail
        go_roundw
        case rel => exact ⟨k + 1, by omega, by go_num, HO2, HB2⟩
        case measure => simp [intOf]; omega
    · obtain rfl : k = 64 := by omega
      go_wp2_with fail
      go_ret
      exact ⟨_, rfl, HO.out, Made.trans ((Made.refl w).alloc (Nat.le_refl _) _) (by have := HB.out; rw [show w.heap.size + 1 = (w.alloc (.cells R 37)).heap.size by simp] at this; exact this)⟩

set_option maxRecDepth 100000 in
set_option maxHeartbeats 2000000 in
theorem Same_c (xs : List Int) (A B : Option Addr) (N c1 c2 : Nat) (hN : N = xs.length) (hn : N ≤ 1000) (B1 B2 : Nat) (w : World) (hA : Rd .i64 w B1 A xs) (hB : Rd .i64 w B2 B xs) :
    Calls Try.prog 33 #[.slice A N c1, .slice B N c2] w fun e w' => e = .returned (.bool true) ∧ Made w w' := by
  have HA := Lib.hid hA
  have HB := Lib.hid hB
  have HN := Lib.hid hN
  clear hA hB hN
  go_enter Try.func33, Try.ntmps33
  go_wp2_with fail
  go_loopw [5] (fun i wr => ∃ k q : Nat, k ≤ N ∧ i = .int .i64 k ∧ wr = w.drewN q) (fun i _ => (N - intOf i).toNat)
  case atStart => exact ⟨0, 0, by omega, rfl, rfl⟩
  case round =>
    obtain ⟨k, q, hk, rfl, hwr⟩ := hrel
    have HWR := Lib.hid hwr
    have hcell : ∀ a, wr.cell? a = w.cell? a := fun a => by rw [hwr]; rfl
    by_cases hkN : k < N
    · have hkl : k < xs.length := by have := HN.out; omega
      obtain ⟨a, rfl, _, ca⟩ := HA.out k hkl
      obtain ⟨b, rfl, _, cb⟩ := HB.out k hkl
      rw [← hcell] at ca cb
      generalize xs[k] = x at ca cb
      have k0 : 0 ≤ (k : Int) := by omega
      have k1 : (k : Int) < (N : Int) := by omega
      clear hcell hwr
      go_wp2_with fail
      go_quiet (fail)
      go_wp2_with fail
      go_roundw
      case rel => obtain ⟨q2, hq2⟩ : ∃ m, wr.drewN nq = w.drewN m := ⟨q + nq, by rw [HWR.out, World.drewN_drewN]⟩; exact ⟨k + 1, q2, by omega, by go_num, hq2⟩
      case measure => simp [intOf]; omega
    · obtain rfl : N = k := by omega
      subst hwr
      clear hcell
      go_wp2_with fail
      go_ret
      exact ⟨rfl, Made.drewN _ _⟩
end Go.Proofs.Ythllplocbciepaa.Ref6
