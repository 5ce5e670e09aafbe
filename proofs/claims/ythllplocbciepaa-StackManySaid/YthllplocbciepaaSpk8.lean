/- Layer 8's laws: the example (knelllaw08.speaks): true. -/
import Derived.Test.YthllplocbciepaaWay8
namespace Go.Proofs.Ythllplocbciepaa.Kod.Eight
open Go.RowKit Go.Proofs.Ythllplocbciepaa Go.Proofs.Ythllplocbciepaa.Cell Go.Proofs.Ythllplocbciepaa.Wd
set_option linter.unusedVariables false
set_option linter.unusedSimpArgs false

set_option maxRecDepth 100000 in
set_option maxHeartbeats 2000000 in
/-- Two rows that are alike. -/
theorem Same_q (xs : List Int) (A B : Option Addr) (N c1 c2 : Nat) (hN : N = xs.length) (w : World) (hA : ∀ k (h : k < xs.length), ∃ d, A = some d ∧ w.cell? (d.add k) = some (.int .i64 xs[k])) (hB : ∀ k (h : k < xs.length), ∃ d, B = some d ∧ w.cell? (d.add k) = some (.int .i64 xs[k])) (hn : N ≤ 100000) :
    Calls Try.prog 33 #[.slice A N c1, .slice B N c2] w fun e w' => e = .returned (.bool true) ∧ ∃ q, w' = w.drewN q := by
  have HA := Lib.hid hA
  have HB := Lib.hid hB
  have HN := Lib.hid hN
  clear hA hB hN
  go_enter Try.func33, Try.ntmps33
  go_wp2_with fail
  go_loopw [5] (fun i wr => ∃ k q : Nat, k ≤ N ∧ i = .int .i64 k ∧ wr = w.drewN q) (fun i _ => (N - intOf i).toNat)
  case atStart => exact ⟨0, 0, by omega, rfl, rfl⟩
  case round =>
    obtain ⟨k, q, hk, rfl, hwr⟩ := hrel
    have HWR := Lib.hid hwr
    have hcell : ∀ a, wr.cell? a = w.cell? a := fun a => by rw [hwr]; rfl
    by_cases hkN : k < N
    · have hkl : k < xs.length := by have := HN.out; omega
      obtain ⟨a, rfl, ca⟩ := HA.out k hkl
      obtain ⟨b, rfl, cb⟩ := HB.out k hkl
      rw [← hcell] at ca cb
      generalize xs[k] = x at ca cb
      have k0 : 0 ≤ (k : Int) := by omega
      have k1 : (k : Int) < (N : Int) := by omega
      clear hcell hwr
      go_wp2_with fail
      go_quiet (fail)
      go_wp2_with fail
      go_roundw
      case rel => obtain ⟨q2, hq2⟩ : ∃ m, wr.drewN nq = w.drewN m := ⟨q + nq, by rw [HWR.out, World.drewN_drewN]⟩; exact ⟨k + 1, q2, by omega, by go_num, hq2⟩
      case measure => simp [intOf]; omega
    · obtain rfl : N = k := by omega
      subst hwr
      clear hcell
      go_wp2_with fail
      go_ret
      exact ⟨rfl, q, rfl⟩
theorem Same_c (xs : List Int) (A B : Option Addr) (N c1 c2 : Nat) (hN : N = xs.length) (w : World) (hA : ∀ k (h : k < xs.length), ∃ d, A = some d ∧ w.cell? (d.add k) = some (.int .i64 xs[k])) (hB : ∀ k (h : k < xs.length), ∃ d, B = some d ∧ w.cell? (d.add k) = some (.int .i64 xs[k])) (hn : N ≤ 100000) :
    Calls Try.prog 33 #[.slice A N c1, .slice B N c2] w fun e w' => e = .returned (.bool true) ∧ Made w w' := (Same_q xs A B N c1 c2 hN w hA hB hn).mono fun e w' ⟨h, q, hq⟩ => ⟨h, by rw [hq]; exact Made.drewN _ _⟩
/-- The example's worker. -/
def x0 : W8 := ⟨[2, 1], some [], false, false, false⟩
def l0 : List Bool := [false, false, true, true, true]
theorem acts0 : l0.foldl act8 ([], x0) = ([], ⟨[2, 1], some [2, 1, -1], false, false, true⟩) := rfl
/-- The memory that the example makes. -/
abbrev V5 (a : Nat) (w : World) : World := (((((w.alloc (.cells #[.pointer (some ⟨a, 0, none⟩), .int .i64 0, .func (.func 76) #[] #[]] 81)).alloc (.cells #[.slice none 0 0] 32)).alloc (.cells #[.bool false, .bool false, .bool true, .bool true, .bool true] 4)).alloc (.cells #[.int .i64 2, .int .i64 1] 3)).alloc
  (.cells #[.slice (some ⟨w.heap.size + 1 + 1 + 1, 0, none⟩) 2 2, .pointer (some ⟨w.heap.size + 1, 0, none⟩), .bool false, .bool false, .bool false] 88))
theorem V5_made (a : Nat) (w : World) : Made w (V5 a w) := (((((Made.refl w).alloc (Nat.le_refl _) _).alloc (by simp only [World.size_alloc]; omega) _).alloc (by simp only [World.size_alloc]; omega) _).alloc (by simp only [World.size_alloc]; omega) _).alloc (by simp only [World.size_alloc]; omega) _
theorem V5_at (a : Nat) (w : World) : (V5 a w).heap[w.heap.size + 1]? = some (.cells #[.slice none 0 0] 32 (0, 0)) ∧ (V5 a w).heap[w.heap.size + 1 + 1]? = some (.cells #[.bool false, .bool false, .bool true, .bool true, .bool true] 4 (0, 0)) ∧ (V5 a w).heap[w.heap.size + 1 + 1 + 1]? = some (.cells #[.int .i64 2, .int .i64 1] 3 (0, 0)) ∧
    (V5 a w).heap[w.heap.size + 1 + 1 + 1 + 1]? = some (.cells #[.slice (some ⟨w.heap.size + 1 + 1 + 1, 0, none⟩) 2 2, .pointer (some ⟨w.heap.size + 1, 0, none⟩), .bool false, .bool false, .bool false] 88 (0, 0)) := by
  refine ⟨?_, ?_, ?_, ?_⟩
  · rw [heap_alloc_old _ _ (by simp only [World.size_alloc]; omega), heap_alloc_old _ _ (by simp only [World.size_alloc]; omega), heap_alloc_old _ _ (by simp only [World.size_alloc]; omega)]
    simpa only [World.size_alloc] using heap_alloc_new (w.alloc (.cells #[.pointer (some ⟨a, 0, none⟩), .int .i64 0, .func (.func 76) #[] #[]] 81)) (.cells #[.slice none 0 0] 32)
  · rw [heap_alloc_old _ _ (by simp only [World.size_alloc]; omega), heap_alloc_old _ _ (by simp only [World.size_alloc]; omega)]
    simpa only [World.size_alloc] using heap_alloc_new ((w.alloc (.cells #[.pointer (some ⟨a, 0, none⟩), .int .i64 0, .func (.func 76) #[] #[]] 81)).alloc (.cells #[.slice none 0 0] 32)) (.cells #[.bool false, .bool false, .bool true, .bool true, .bool true] 4)
  · rw [heap_alloc_old _ _ (by simp only [World.size_alloc]; omega)]
    simpa only [World.size_alloc] using heap_alloc_new (((w.alloc (.cells #[.pointer (some ⟨a, 0, none⟩), .int .i64 0, .func (.func 76) #[] #[]] 81)).alloc (.cells #[.slice none 0 0] 32)).alloc (.cells #[.bool false, .bool false, .bool true, .bool true, .bool true] 4)) (.cells #[.int .i64 2, .int .i64 1] 3)
  · simpa only [World.size_alloc] using heap_alloc_new ((((w.alloc (.cells #[.pointer (some ⟨a, 0, none⟩), .int .i64 0, .func (.func 76) #[] #[]] 81)).alloc (.cells #[.slice none 0 0] 32)).alloc (.cells #[.bool false, .bool false, .bool true, .bool true, .bool true] 4)).alloc (.cells #[.int .i64 2, .int .i64 1] 3)) (.cells #[.slice (some ⟨w.heap.size + 1 + 1 + 1, 0, none⟩) 2 2, .pointer (some ⟨w.heap.size + 1, 0, none⟩), .bool false, .bool false, .bool false] 88)
/-- The example's layout. -/
abbrev own0 (g : Nat) : Nat → Prop := fun k => k = g + 1 ∨ k = g + 1 + 1 + 1 ∨ k = g + 1 + 1 + 1 + 1
theorem V5_inv {a b : Nat} {w : World} (hA : Arena w a b 0 (List.replicate 4 0)) : Inv (S8 a b (fun _ => w.heap.size + 1)) 200 ⟨0, List.replicate 4 0, [], [x0]⟩ [] ⟨[], own0 w.heap.size, fun _ => False, [w.heap.size + 1 + 1 + 1 + 1]⟩ (V5 a w) := by
  have la := lt_of_at hA.ha
  have lb := lt_of_at hA.hb
  obtain ⟨e1, e2, e3, e4⟩ := V5_at a w
  have hsz : (V5 a w).heap.size = w.heap.size + 5 := by simp only [World.size_alloc]
  refine begin_got (hv := .slice (some ⟨w.heap.size + 1 + 1 + 1, 0, none⟩) 2 2) (sv := .slice none 0 0) (hA.later (V5_made a w)) (zeros_wide 4) (by simp) (by omega) (fun k hk => ?_) ⟨Or.inr (Or.inr rfl), e4, ⟨rfl, Or.inr ⟨_, 2, _, rfl, Nat.zero_le _, e3, Nat.le_refl _, by unfold maxLen; omega, rfl, rfl⟩⟩, fun k hk => ?_, fun i hi => ?_, fun g hg => ?_⟩ (fun k _ h => by simp [Value.ownBlock] at h) (fun h => by simp [x0] at h)
  · rw [hsz]
    rcases hk with rfl | rfl | rfl <;> exact ⟨by omega, by omega, by omega⟩
  · obtain rfl : w.heap.size + 1 + 1 + 1 = k := by simpa [Value.ownBlock] using hk
    exact Or.inr (Or.inl rfl)
  · simp only [x0, List.mem_cons, List.not_mem_nil, or_false] at hi
    omega
  · obtain rfl : [] = g := by simpa [x0] using hg
    exact ⟨Or.inl rfl, e1, World.ownsRow_nil _ _ _ _, fun k h => by simp [Value.ownBlock] at h⟩
theorem fit0 : Fit (List.replicate 4 0) [] x0 (0 + l0.length) := ⟨Stk.empty (n := 3) (by omega), by simp [x0], fun i hi => by simp only [x0, List.mem_cons, List.not_mem_nil, or_false] at hi; simp; omega, by simp [x0], fun g hg => by
  obtain rfl : [] = g := by simpa [x0] using hg
  simp [l0]⟩
/-- What the example's task comes to. -/
theorem fin0 {m n tb : Nat} {g : Nat} {k0 : K8} {σ0 : St (List W8)} {v : Value} {own scr : Nat → Prop} {w : World} {a b wb : Nat} (he : enter 0 l0 ⟨0, List.replicate 4 0, [], [x0]⟩ = some (k0, σ0)) (h : Ready (S8 a b (fun _ => g)) (m + 15) (n + 2 * 15) ⟨[k0], { σ0 with steps := [0] }⟩ [v] ⟨[tb], own, scr, [wb]⟩ w) :
    Calls Try.prog 45 #[.pointer (some ⟨tb, 0, none⟩), .int .i64 60] w fun e w' => e = .returned (.bool true) ∧ (∃ L', Ext (S8 a b (fun _ => g)) w ⟨[tb], own, scr, [wb]⟩ w' L') ∧ ∃ q c, w'.cell? ⟨g, 0, none⟩ = some (.slice (some ⟨q, 0, none⟩) 3 c) ∧ q < w'.heap.size ∧ ∀ k (hk : k < [2, 1, -1].length), w'.cell? ⟨q, k, none⟩ = some (.int .i64 ([2, 1, -1][k])) := by
  obtain ⟨t, τ', hc⟩ := solo (a := a) (b := b) (gb := fun _ => g) 0 0 0 l0 [k0] _ [] x0 k0 _ (enter_steps l0 [0] he) rfl fit0 rfl
  have hN : t ≤ 15 := hc.few
  refine (Finish_way (m := m) (n := n) h (p := 0) rfl hc.way over_done hN 60 (by omega)).mono ?_
  rintro e w' ⟨rs', L', rfl, hx, hk, hr⟩
  rw [over_done]
  refine ⟨rfl, ⟨L', hx⟩, ?_⟩
  have hrest : J8 (fun _ => g) τ'.r L'.own L'.gh w' := hr.inv.rest
  obtain ⟨hv, sv, W⟩ := hrest
  have hr' : τ'.r = [⟨[2, 1], some [2, 1, -1], false, false, true⟩] := by
    rw [hc.r, acts0]
    rfl
  have hgh : L'.gh = [wb] := hk.gh
  have hw := W.wk 0 ⟨[2, 1], some [2, 1, -1], false, false, true⟩ wb (by rw [hr']; rfl) (by rw [hgh]; rfl)
  obtain ⟨_, h2, h3, _⟩ := hw.got [2, 1, -1] rfl
  obtain ⟨e0, e1⟩ := h3
  rcases e1 with ⟨e1, e2⟩ | ⟨q, cap, cur, e1, hb, hq, hnc, hcm, hcs, htk⟩
  · simp at e2
  · refine ⟨q, cap, ?_, lt_of_at hq, fun k hk => ?_⟩
    · rw [cell_of_row _ _ _ _ _ _ h2, e1]
      rfl
    · rw [cell_of_row _ _ _ _ _ _ hq]
      have h4 : ([2, 1, -1].map (Value.int .i64))[k]? = some (.int .i64 ([2, 1, -1][k])) := by
        rw [List.getElem?_map, List.getElem?_eq_getElem hk]
        rfl
      rw [← htk, List.getElem?_take] at h4
      split at h4
      · simpa using h4
      · simp at h4
end Go.Proofs.Ythllplocbciepaa.Kod.Eight
