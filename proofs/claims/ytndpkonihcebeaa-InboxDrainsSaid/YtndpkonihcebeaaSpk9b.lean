/- Layer 9's laws: the example (knelllaw09.speaks), walked: true. -/
import Derived.Test.YtndpkonihcebeaaSpk9
import Derived.Test.YtndpkonihcebeaaApp
namespace Go.Proofs.Ytndpkonihcebeaa.Kod.Nine
open Go.RowKit Go.Proofs.Ytndpkonihcebeaa Go.Proofs.Ytndpkonihcebeaa.Cell Go.Proofs.Ytndpkonihcebeaa.Wd
set_option linter.unusedVariables false
set_option linter.unusedSimpArgs false

theorem Grp.live {S : Sys} {B m n : Nat} {M : Mach S} {ts gh : List Nat} {C : List (S.K × Value)} {Z : List (Option Addr × List Value)} {own : Nat → Prop} {w0 wr : World} {k : S.K} {v : Value} (h : Grp S B m n M ts gh C Z own w0 wr) (hv : (k, v) ∈ C) (hk : S.nil k = false) : ∃ f cap, v = .func (.func f) #[] cap := by
  obtain ⟨rs, L, hr, hts, hgh, hold, hC, hZ, hscr⟩ := h.ex
  exact Rep.live (hC _ hv) hk
/-- A box's cells. -/
def Seven (a ba bn g : Nat) (w : World) : Prop := w.cell? ⟨g, 0, none⟩ = some (.pointer (some ⟨a, 0, none⟩)) ∧ w.cell? ⟨g, 1, none⟩ = some (.int .i64 0) ∧ w.cell? ⟨g, 2, none⟩ = some (.func (.func 40) #[] #[]) ∧ w.cell? ⟨g, 3, none⟩ = some (.func (.func 41) #[] #[.pointer (some ⟨ba, 0, none⟩), .pointer (some ⟨bn, 0, none⟩)]) ∧ w.cell? ⟨g, 4, none⟩ = some (.pointer (some ⟨a, 0, none⟩)) ∧ w.cell? ⟨g, 5, none⟩ = some (.int .i64 1) ∧ w.cell? ⟨g, 6, none⟩ = some (.func (.func 40) #[] #[])
theorem Grp.seven {S : Sys} {B m n a ba bn g : Nat} {M : Mach S} {ts gh : List Nat} {C : List (S.K × Value)} {Z : List (Option Addr × List Value)} {own : Nat → Prop} {w0 wr : World} (h : Grp S B m n M ts gh C Z own w0 wr) (hz : (some (⟨g, 0, none⟩ : Addr), (bxf a ba bn).toList) ∈ Z) : Seven a ba bn g wr :=
  ⟨h.lie0 hz rfl, h.lie0 hz rfl, h.lie0 hz rfl, h.lie0 hz rfl, h.lie0 hz rfl, h.lie0 hz rfl, h.lie0 hz rfl⟩
theorem cell_made {w : World} {a : Addr} {v : Value} {o : Obj} (h : w.cell? a = some v) : (w.alloc o).cell? a = some v := (World.cell?_alloc_some w a o (by rw [h]; rfl)).trans h
theorem reads_own {w : World} {B n : Nat} {E : TypeId} {A : Option Addr} {c : Nat} {vs : List Value} (h : w.ownsRow B E 1 (.slice A n c) n vs) : Reads w A n vs := by
  refine ⟨by have := h.1; omega, fun j u hu => ?_⟩
  rcases h.2 with ⟨h1, h2⟩ | ⟨g, cap, cur, h1, h2, h3, h4, h5, h6, h7⟩
  · have := h.1
    have : vs = [] := List.length_eq_zero_iff.1 (by omega)
    rw [this] at hu
    simp at hu
  · simp only [Value.slice.injEq] at h1
    obtain ⟨rfl, _, rfl⟩ := h1
    have e : (⟨g, 0, none⟩ : Addr).add j = ⟨g, j, none⟩ := by unfold Addr.add; split <;> simp_all
    refine ⟨_, rfl, ?_⟩
    rw [e, cell_of_row _ _ _ _ _ _ h3]
    rw [← h7, Nat.mul_one, List.getElem?_take] at hu
    split at hu
    · simpa using hu
    · simp at hu
theorem own_ints {w : World} {B c : Nat} {A : Option Addr} {xs : List Int} (h : w.ownsRow B 3 1 (.slice A xs.length c) xs.length (xs.map (.int .i64))) : ∀ k (h : k < xs.length), ∃ d, A = some d ∧ w.cell? (d.add k) = some (.int .i64 xs[k]) := fun k hk => (reads_own h).2 k _ (by rw [List.getElem?_map, List.getElem?_eq_getElem hk]; rfl)
theorem own_lt {w : World} {B c : Nat} {A : Option Addr} {xs : List Int} (h : w.ownsRow B 3 1 (.slice A xs.length c) xs.length (xs.map (.int .i64))) {o : Obj} : ∀ k (h : k < xs.length), ∃ d, A = some d ∧ (w.alloc o).cell? (d.add k) = some (.int .i64 xs[k]) := fun k hk => by
  obtain ⟨d, h1, h2⟩ := own_ints h k hk
  exact ⟨d, h1, cell_made h2⟩
/-- What the example's rounds come to. -/
def bls0 : Nat → List Int × List (List Int × List Int)
  | 0 => ([], [([], [])])
  | 1 => ([2, 1], [([], [])])
  | _ => ([], [([2, 1], [2])])
def cs0 : Nat → K9
  | 0 => kput false [1, 2]
  | _ => kdr 0 1
/-- The example's memory, where its codes are made. -/
theorem begin0 {w w1 : World} {a b ba bn : Nat} (hA : Arena w1 a b 0 (List.replicate (2 + 2 * 3) 0)) (ha : w.heap.size ≤ a) (hb : w.heap.size ≤ b) (n1 : ba ≠ a) (n2 : ba ≠ b) (n3 : bn ≠ a) (n4 : bn ≠ b) (hba : w1.cell? ⟨ba, 0, none⟩ = some (.pointer (some ⟨a, 0, none⟩))) (hbn : w1.cell? ⟨bn, 0, none⟩ = some (.int .i64 ((3 : Nat) : Int))) (hm : Made w w1) :
    Grp (S9 a b (3 : Nat) none) w.heap.size (40 * 2) (2 * (40 * 2)) (mk a b (3 : Nat) none [] ⟨0, List.replicate (2 + 2 * 3) 0, [], ⟨[([], [])], []⟩⟩) [] [w1.heap.size + 1] [] [(some ⟨w1.heap.size, 0, none⟩, (bxf a ba bn).toList), (some ⟨ba, 0, none⟩, [.pointer (some ⟨a, 0, none⟩)]), (some ⟨bn, 0, none⟩, [.int .i64 ((3 : Nat) : Int)])] (fun _ => False) w ((w1.alloc (.cells (bxf a ba bn) 31)).alloc (.cells #[.slice none 0 0, .slice none 0 0] 36)) := by
  have h0 := Grp.begin9 (m := 40 * 2) (n := 2 * (40 * 2)) hA (by omega) (by omega) ha hb n1 n2 n3 n4 hba hbn hm hm.size
  have h1 := h0.box (w' := w1.alloc (.cells (bxf a ba bn) 31)) ((Made.refl w1).alloc (Nat.le_refl _) _) (Nat.le_refl _) (heap_alloc_new _ _)
  have h2 := (Grp.owner9 h1 (w' := (w1.alloc (.cells (bxf a ba bn) 31)).alloc (.cells #[.slice none 0 0, .slice none 0 0] 36)) ((Made.refl _).alloc (Nat.le_refl _) _) (Nat.le_refl _) (heap_alloc_new _ _)).1
  simp only [World.size_alloc] at h2
  exact h2
set_option maxRecDepth 100000 in
set_option maxHeartbeats 2000000 in
theorem speaks_c (w : World) : Calls Try.prog 12 #[] w fun e w' => e = .returned (.bool true) ∧ Made w w' := by
  have HFR := fun w => Lib.hid (fresh_c 3 (by omega) w)
  go_enter Try.func12, Try.ntmps12
  go_wp2_with fail
  refine (HFR _).out.mono ?_
  rintro e w1 ⟨a, b, ba, bn, rfl, hA, l1, l2, l3, l4, n1, n2, n3, n4, hba, hbn, hm1⟩
  have h0 := begin0 hA l1 l2 n1 n2 n3 n4 hba hbn hm1
  have HS0 := Grp.seven (a := a) (ba := ba) (bn := bn) (g := w1.heap.size) h0 List.mem_cons_self
  have HG0 := Lib.hid h0
  obtain ⟨d0, d1, d2, d3, d4, d5, d6⟩ := HS0
  obtain ⟨W2, hW2⟩ : ∃ W2, W2 = (w1.alloc (.cells (bxf a ba bn) 31)).alloc (.cells #[.slice none 0 0, .slice none 0 0] 36) := ⟨_, rfl⟩
  have HP : Hid (Calls Try.prog 16 #[.agg (bxf a ba bn), .slice (some ⟨W2.heap.size, 0, none⟩) 2 2, .nilFunc] ((W2.alloc (.cells #[.int .i64 1, .int .i64 2] 3)).drew) fun e w3 => ∃ f1 c1, e = .returned (.func (.func f1) #[] c1) ∧ Hid (Seven a ba bn w1.heap.size w3) ∧ Hid (Calls Try.prog 15 #[.agg (bxf a ba bn), .int .i64 1, .pointer (some ⟨w1.heap.size + 1, 0, none⟩)] w3 fun e w4 => ∃ f2 c2, e = .returned (.func (.func f2) #[] c2) ∧ Hid (Seven a ba bn w1.heap.size w4) ∧ ∃ Z, Hid (Grp (S9 a b (3 : Nat) none) w.heap.size (40 * 2) (2 * (40 * 2)) (mk a b (3 : Nat) none [] ⟨0, List.replicate (2 + 2 * 3) 0, [], ⟨[([], [])], []⟩⟩) [] [w1.heap.size + 1] [(kdr 0 1, .func (.func f2) #[] c2), (kput false [1, 2], .func (.func f1) #[] c1)] Z (fun _ => False) w w4))) := by
    have hg1 := HG0.out
    rw [← hW2] at hg1
    have hg2 := hg1.box (w' := (W2.alloc (.cells #[.int .i64 1, .int .i64 2] 3)).drew) (Made.trans ((Made.refl W2).alloc (Nat.le_refl _) _) (Made.drewN _ 1)) (Nat.le_refl _) (heap_alloc_new W2 (.cells #[.int .i64 1, .int .i64 2] 3))
    refine (Grp.puts9 (N := 2) (c := 2) (ba := ba) (bn := bn) (l := [1, 2]) hg2 (Lib.hid rfl) (by omega) (by omega) (by omega) (by omega) (by simp) (by simp) (by simp) (by simp)).mono ?_
    rintro e w3 ⟨v1, rfl, _, hg3, _⟩
    obtain ⟨f1, c1, rfl⟩ := Grp.live hg3.out List.mem_cons_self rfl
    refine ⟨f1, c1, rfl, Grp.seven hg3.out (List.mem_cons_of_mem _ List.mem_cons_self), ?_⟩
    refine (Grp.drains9 (o := 0) (k := 1) (ba := ba) (bn := bn) hg3.out rfl (by omega)).mono ?_
    rintro e w4 ⟨v2, rfl, _, hg4, _⟩
    obtain ⟨f2, c2, rfl⟩ := Grp.live hg4.out List.mem_cons_self rfl
    exact ⟨f2, c2, rfl, Grp.seven hg4.out (List.mem_cons_of_mem _ List.mem_cons_self), _, hg4.out⟩
  rw [← hW2] at d0 d1 d2 d3 d4 d5 d6
  have HW2 := Lib.hid hW2
  clear hA l1 l2 l3 l4 n1 n2 n3 n4 hba hbn hm1 h0 HFR hW2 HG0
  unfold bxf at HP
  go_wp2_with fail
  rw [← HW2.out]
  generalize w1.heap.size = g0 at *
  clear HW2
  go_region_held3 (fun w1 => w1.cell? ⟨g0, 0, none⟩ = some (.pointer (some ⟨a, 0, none⟩)) ∧ w1.cell? ⟨g0, 1, none⟩ = some (.int .i64 0) ∧ w1.cell? ⟨g0, 2, none⟩ = some (.func (.func 40) #[] #[]) ∧ w1.cell? ⟨g0, 3, none⟩ = some (.func (.func 41) #[] #[.pointer (some ⟨ba, 0, none⟩), .pointer (some ⟨bn, 0, none⟩)]) ∧ w1.cell? ⟨g0, 4, none⟩ = some (.pointer (some ⟨a, 0, none⟩)) ∧ w1.cell? ⟨g0, 5, none⟩ = some (.int .i64 1) ∧ w1.cell? ⟨g0, 6, none⟩ = some (.func (.func 40) #[] #[])) (first | (refine ⟨?_, ?_, ?_, ?_, ?_, ?_, ?_⟩ <;> first | assumption | simpa using d0 | simpa using d1 | simpa using d2 | simpa using d3 | simpa using d4 | simpa using d5 | simpa using d6 | (exact cell_made (by assumption)) | (exact cell_made d0) | (exact cell_made d1) | (exact cell_made d2) | (exact cell_made d3) | (exact cell_made d4) | (exact cell_made d5) | (exact cell_made d6))) (first | (go_at_call 16; refine HP.out.mono ?_; rintro e w3 ⟨f1, c1, rfl, HS3, HD⟩; obtain ⟨e0, e1, e2, e3, e4, e5, e6⟩ := HS3.out) | (go_at_call 15; refine HD.out.mono ?_; rintro e w4 ⟨f2, c2, rfl, HS4, Z, HG4⟩; obtain ⟨k0, k1, k2, k3, k4, k5, k6⟩ := HS4.out))
  obtain ⟨gc, hgc⟩ : ∃ gc, gc = w4.heap.size := ⟨_, rfl⟩
  have hg5 := HG4.out.box (w' := w4.alloc (.cells #[.func (.func f1) #[] c1, .func (.func f2) #[] c2] 40)) ((Made.refl w4).alloc (Nat.le_refl _) _) (Nat.le_refl _) (heap_alloc_new _ _)
  rw [← hgc] at hg5 ⊢
  obtain ⟨ZZ, hZZ⟩ : ∃ ZZ, ZZ = ((some ⟨gc, 0, none⟩, (#[Value.func (.func f1) #[] c1, .func (.func f2) #[] c2] : Array Value).toList) :: Z : List (Option Addr × List Value)) := ⟨_, rfl⟩
  obtain ⟨CC, hCC⟩ : ∃ CC, CC = ([(kdr 0 1, .func (.func f2) #[] c2), (kput false [1, 2], .func (.func f1) #[] c1)] : List (K9 × Value)) := ⟨_, rfl⟩
  have HR5 : Hid (Rounds a b 3 w.heap.size 40 2 (g0 + 1) cs0 CC ZZ (fun _ => False) w bls0 0 (w4.alloc (.cells #[.func (.func f1) #[] c1, .func (.func f2) #[] c2] 40))) := by
    refine ⟨[], ⟨0, List.replicate (2 + 2 * 3) 0, [], ⟨[([], [])], []⟩⟩, ?_, Two.empty 3 (by omega), rfl⟩
    rw [hZZ, hCC]
    exact hg5
  have HST : Hid (∀ (j : Nat) (wr : World), j < 2 → Rounds a b 3 w.heap.size 40 2 (g0 + 1) cs0 CC ZZ (fun _ => False) w bls0 j wr → ∃ f c, wr.cell? ⟨gc, j, none⟩ = some (.func (.func f) #[] c) ∧ Hid (Calls Try.prog 14 #[.func (.func f) #[] c] wr fun e w1 => ∃ tb, e = .returned (.pointer (some ⟨tb, 0, none⟩)) ∧ Hid (Calls Try.prog 18 #[.pointer (some ⟨tb, 0, none⟩), .int .i64 40] w1 fun e w2 => e = .returned (.bool true) ∧ Hid (Rounds a b 3 w.heap.size 40 2 (g0 + 1) cs0 CC ZZ (fun _ => False) w bls0 (j + 1) w2)))) := by
    intro j wr hj hr
    obtain ⟨ts, τ, hg, _, _⟩ := hr.ex
    obtain rfl | rfl : j = 0 ∨ j = 1 := by omega
    · refine ⟨f1, c1, hg.lie0 (g := gc) (vs := (#[Value.func (.func f1) #[] c1, .func (.func f2) #[] c2] : Array Value).toList) (by rw [hZZ]; exact List.mem_cons_self) rfl, ?_⟩
      exact hr.step (most := 40) (by omega) (by rw [hCC]; exact List.mem_cons_of_mem _ List.mem_cons_self) (fun xs => ⟨rfl, rfl, by simp [bls0], fun i hi => by simp [bls0] at hi; omega⟩) rfl (by decide) (by omega)
    · refine ⟨f2, c2, hg.lie0 (g := gc) (vs := (#[Value.func (.func f1) #[] c1, .func (.func f2) #[] c2] : Array Value).toList) (by rw [hZZ]; exact List.mem_cons_self) rfl, ?_⟩
      exact hr.step (most := 40) (by omega) (by rw [hCC]; exact List.mem_cons_self) (fun xs => ⟨rfl, ⟨by simp [bls0], fun i hi => by simp [bls0] at hi; omega⟩, _, rfl, by simp [bls0], by simp [bls0]⟩) rfl (by decide) (by omega)
  clear hg5 hgc hZZ hCC HP HD HG4 HS3 HS4 d0 d1 d2 d3 d4 d5 d6 e0 e1 e2 e3 e4 e5 e6 k0 k1 k2 k3 k4 k5 k6
  generalize w4.alloc (.cells #[.func (.func f1) #[] c1, .func (.func f2) #[] c2] 40) = w5 at *
  go_wp2_with fail
  go_loopw [23] (fun i wr => ∃ j : Nat, i = .int .i64 j ∧ j ≤ 2 ∧ Hid (Rounds a b 3 w.heap.size 40 2 (g0 + 1) cs0 CC ZZ (fun _ => False) w bls0 j wr)) (fun i _ => (2 - intOf i).toNat)
  case atStart => exact ⟨0, rfl, by omega, HR5.out⟩
  case round =>
    obtain ⟨j, rfl, hj, HR⟩ := hrel
    by_cases hj2 : j < 2
    · obtain ⟨f, c, hc, HN⟩ := HST.out j wr hj2 HR.out
      have hk0 : (0 : Int) ≤ (j : Int) := by omega
      have hk1 : (j : Int) < 2 := by omega
      clear HST HR HR5
      go_wp2_with fail
      refine HN.out.mono ?_
      rintro e w6 ⟨tb, rfl, HF⟩
      clear HN hc
      go_wp2_with fail
      refine HF.out.mono ?_
      rintro e w7 ⟨rfl, HR7⟩
      clear HF
      go_wp2_with fail
      go_roundw
      case rel => exact ⟨j + 1, by first | rfl | go_num | (congr 1; omega), by omega, HR7⟩
      case measure => simp [intOf]; omega
    · obtain rfl : j = 2 := by omega
      obtain ⟨ts, τ, hg, T, hr⟩ := HR.out.ex
      obtain ⟨A, cg, A', cg', q1, q2, q3, q4⟩ := Grp.got9 (o := 0) (g := g0 + 1) (y := ([2, 1], [2])) hg rfl (by rw [hr]; rfl)
      have HM := Lib.hid hg.bel
      have HSA : Hid (∀ o, Calls Try.prog 22 #[.slice A 2 cg, .slice (some ⟨wr.heap.size, 0, none⟩) 2 2] (wr.alloc (.cells #[.int .i64 2, .int .i64 1] o)) fun e w' => e = .returned (.bool true) ∧ Made (wr.alloc (.cells #[.int .i64 2, .int .i64 1] o)) w') := fun o =>
        Same_c [2, 1] A (some ⟨wr.heap.size, 0, none⟩) 2 cg 2 rfl _ (own_lt (xs := [2, 1]) q3) (fun k hk => ⟨_, rfl, by
          have e : (⟨wr.heap.size, 0, none⟩ : Addr).add k = ⟨wr.heap.size, k, none⟩ := by unfold Addr.add; split <;> simp_all
          rw [e, cell_of_row _ _ _ _ _ _ (heap_alloc_new _ _)]
          match k, hk with
          | 0, _ => rfl
          | 1, _ => rfl⟩) (by omega)
      clear q2 q3 q4 hg T hr HST HR HR5 hj2 hj
      go_wp2_with fail
      refine (HSA.out _).mono ?_
      rintro e w9 ⟨rfl, hm9⟩
      have HF : Hid (Made w w9) := Made.trans (Made.trans HM.out ((Made.refl _).alloc (Nat.le_refl _) _)) hm9
      clear hm9 HSA HM
      go_wp2_with fail
      go_ret
      exact ⟨rfl, HF.out⟩
end Go.Proofs.Ytndpkonihcebeaa.Kod.Nine
