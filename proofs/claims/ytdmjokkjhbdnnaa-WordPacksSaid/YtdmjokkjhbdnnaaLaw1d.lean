/- WordPacks, walked: it answers true for all numbers. -/
import Derived.Test.YtdmjokkjhbdnnaaLaw1
import Derived.Test.YtdmjokkjhbdnnaaRef1b
namespace Go.Proofs.Ytdmjokkjhbdnnaa.Law1
open Go.RowKit Go.Proofs.Ytdmjokkjhbdnnaa Go.Proofs.Ytdmjokkjhbdnnaa.Num Go.Proofs.Ytdmjokkjhbdnnaa.Wd Go.Proofs.Ytdmjokkjhbdnnaa.Ref1
set_option linter.unusedVariables false
set_option linter.unusedSimpArgs false

theorem word2 (n0 n1 : Nat) (x0 x1 : Int) (hn : 1 ≤ n0 ∧ n0 ≤ 63 ∧ 1 ≤ n1 ∧ n1 ≤ 63 ∧ n0 + n1 = 64) (h0 : I64 x0) (h1 : I64 x1) (b1 b2 : Nat) (w : World)
    (c0 : w.cell? ⟨b1, 0, none⟩ = some (.int .i64 x0)) (c1 : w.cell? ⟨b1, 1, none⟩ = some (.int .i64 x1))
    (d0 : w.cell? ⟨b2, 0, none⟩ = some (.int .i64 (n0 : Int))) (d1 : w.cell? ⟨b2, 1, none⟩ = some (.int .i64 (n1 : Int))) :
    Calls Try.prog 19 #[.slice (some ⟨b1, 0, none⟩) 2 2, .slice (some ⟨b2, 0, none⟩) 2 2] w fun e w' => e = .returned (.tuple #[.int .u64 ((packed [(n0, x0), (n1, x1)]).1 : Int), .int .i64 (packed [(n0, x0), (n1, x1)]).2]) ∧ Made w w' := by
  refine (Word_c [(n0, x0), (n1, x1)] b1 b2 (by simp) ?_ ?_ ?_ w ?_ ?_).mono ?_
  · intro p hp; simp at hp; rcases hp with rfl | rfl <;> (dsimp only; omega)
  · intro p hp; simp at hp; rcases hp with rfl | rfl <;> assumption
  · simp; omega
  · intro k hk
    match k, hk with
    | 0, _ => exact c0
    | 1, _ => exact c1
  · intro k hk
    match k, hk with
    | 0, _ => exact d0
    | 1, _ => exact d1
  · rintro e w' ⟨rfl, q, rfl⟩
    exact ⟨rfl, Made.drewN _ _⟩
theorem word3 (n0 n1 n2 : Nat) (x0 x1 x2 : Int) (hn : 1 ≤ n0 ∧ n0 ≤ 63 ∧ 1 ≤ n1 ∧ n1 ≤ 63 ∧ 1 ≤ n2 ∧ n2 ≤ 63 ∧ n0 + n1 + n2 = 64) (h0 : I64 x0) (h1 : I64 x1) (h2 : I64 x2) (b1 b2 : Nat) (w : World)
    (c0 : w.cell? ⟨b1, 0, none⟩ = some (.int .i64 x0)) (c1 : w.cell? ⟨b1, 1, none⟩ = some (.int .i64 x1)) (c2 : w.cell? ⟨b1, 2, none⟩ = some (.int .i64 x2))
    (d0 : w.cell? ⟨b2, 0, none⟩ = some (.int .i64 (n0 : Int))) (d1 : w.cell? ⟨b2, 1, none⟩ = some (.int .i64 (n1 : Int))) (d2 : w.cell? ⟨b2, 2, none⟩ = some (.int .i64 (n2 : Int))) :
    Calls Try.prog 19 #[.slice (some ⟨b1, 0, none⟩) 3 3, .slice (some ⟨b2, 0, none⟩) 3 3] w fun e w' => e = .returned (.tuple #[.int .u64 ((packed [(n0, x0), (n1, x1), (n2, x2)]).1 : Int), .int .i64 (packed [(n0, x0), (n1, x1), (n2, x2)]).2]) ∧ Made w w' := by
  refine (Word_c [(n0, x0), (n1, x1), (n2, x2)] b1 b2 (by simp) ?_ ?_ ?_ w ?_ ?_).mono ?_
  · intro p hp; simp at hp; rcases hp with rfl | rfl | rfl <;> (dsimp only; omega)
  · intro p hp; simp at hp; rcases hp with rfl | rfl | rfl <;> assumption
  · simp; omega
  · intro k hk
    match k, hk with
    | 0, _ => exact c0
    | 1, _ => exact c1
    | 2, _ => exact c2
  · intro k hk
    match k, hk with
    | 0, _ => exact d0
    | 1, _ => exact d1
    | 2, _ => exact d2
  · rintro e w' ⟨rfl, q, rfl⟩
    exact ⟨rfl, Made.drewN _ _⟩
theorem word4 (n0 n1 n2 n3 : Nat) (x0 x1 x2 x3 : Int) (hn : 1 ≤ n0 ∧ n0 ≤ 63 ∧ 1 ≤ n1 ∧ n1 ≤ 63 ∧ 1 ≤ n2 ∧ n2 ≤ 63 ∧ 1 ≤ n3 ∧ n3 ≤ 63 ∧ n0 + n1 + n2 + n3 = 64) (h0 : I64 x0) (h1 : I64 x1) (h2 : I64 x2) (h3 : I64 x3) (b1 b2 : Nat) (w : World)
    (c0 : w.cell? ⟨b1, 0, none⟩ = some (.int .i64 x0)) (c1 : w.cell? ⟨b1, 1, none⟩ = some (.int .i64 x1)) (c2 : w.cell? ⟨b1, 2, none⟩ = some (.int .i64 x2)) (c3 : w.cell? ⟨b1, 3, none⟩ = some (.int .i64 x3))
    (d0 : w.cell? ⟨b2, 0, none⟩ = some (.int .i64 (n0 : Int))) (d1 : w.cell? ⟨b2, 1, none⟩ = some (.int .i64 (n1 : Int))) (d2 : w.cell? ⟨b2, 2, none⟩ = some (.int .i64 (n2 : Int))) (d3 : w.cell? ⟨b2, 3, none⟩ = some (.int .i64 (n3 : Int))) :
    Calls Try.prog 19 #[.slice (some ⟨b1, 0, none⟩) 4 4, .slice (some ⟨b2, 0, none⟩) 4 4] w fun e w' => e = .returned (.tuple #[.int .u64 ((packed [(n0, x0), (n1, x1), (n2, x2), (n3, x3)]).1 : Int), .int .i64 (packed [(n0, x0), (n1, x1), (n2, x2), (n3, x3)]).2]) ∧ Made w w' := by
  refine (Word_c [(n0, x0), (n1, x1), (n2, x2), (n3, x3)] b1 b2 (by simp) ?_ ?_ ?_ w ?_ ?_).mono ?_
  · intro p hp; simp at hp; rcases hp with rfl | rfl | rfl | rfl <;> (dsimp only; omega)
  · intro p hp; simp at hp; rcases hp with rfl | rfl | rfl | rfl <;> assumption
  · simp; omega
  · intro k hk
    match k, hk with
    | 0, _ => exact c0
    | 1, _ => exact c1
    | 2, _ => exact c2
    | 3, _ => exact c3
  · intro k hk
    match k, hk with
    | 0, _ => exact d0
    | 1, _ => exact d1
    | 2, _ => exact d2
    | 3, _ => exact d3
  · rintro e w' ⟨rfl, q, rfl⟩
    exact ⟨rfl, Made.drewN _ _⟩
theorem widths0 (w : World) : Calls Try.prog 20 #[.int .i64 0] w fun e w' => e = .returned (.slice (some ⟨w.heap.size, 0, none⟩) 3 3) ∧ w.alloc (.cells #[.int .i64 32, .int .i64 30, .int .i64 2] 3) = w' := Widths_c 0 w
theorem widths1 (w : World) : Calls Try.prog 20 #[.int .i64 1] w fun e w' => e = .returned (.slice (some ⟨w.heap.size, 0, none⟩) 3 3) ∧ w.alloc (.cells #[.int .i64 32, .int .i64 16, .int .i64 16] 3) = w' := Widths_c 1 w
theorem widths2 (w : World) : Calls Try.prog 20 #[.int .i64 2] w fun e w' => e = .returned (.slice (some ⟨w.heap.size, 0, none⟩) 3 3) ∧ w.alloc (.cells #[.int .i64 32, .int .i64 16, .int .i64 16] 3) = w' := Widths_c 2 w
theorem widths3 (w : World) : Calls Try.prog 20 #[.int .i64 3] w fun e w' => e = .returned (.slice (some ⟨w.heap.size, 0, none⟩) 2 2) ∧ w.alloc (.cells #[.int .i64 32, .int .i64 32] 3) = w' := Widths_c 3 w
theorem widths4 (w : World) : Calls Try.prog 20 #[.int .i64 4] w fun e w' => e = .returned (.slice (some ⟨w.heap.size, 0, none⟩) 4 4) ∧ w.alloc (.cells #[.int .i64 26, .int .i64 5, .int .i64 3, .int .i64 30] 3) = w' := Widths_c 4 w

theorem head_cap (a b : Int) : headPacked a b = packed [(32, a), (32, min b 1099511627776 + 1)] := by
  unfold headPacked
  by_cases h : b < -1 ∨ 4294967295 ≤ b
  · rw [if_pos h]
    symm
    apply packed_none
    rw [laid]
    by_cases ha : 0 ≤ a ∧ a < 2 ^ 32
    · rw [if_pos ha, laid, if_neg (by omega)]; rfl
    · rw [if_neg ha]
  · rw [if_neg h, show min b 1099511627776 = b by omega]
theorem conn_cap (a b c d : Int) : packed [(26, a), (5, b), (3, c), (30, d)] = packed [(26, a), (5, min b 1099511627776), (3, c), (30, d)] := by
  by_cases h : b ≤ 1099511627776
  · rw [show min b 1099511627776 = b by omega]
  · have e : ∀ x : Int, 32 ≤ x → packed [(26, a), (5, x), (3, c), (30, d)] = (0, 2) := by
      intro x hx
      apply packed_none
      rw [laid]
      by_cases ha : 0 ≤ a ∧ a < 2 ^ 26
      · rw [if_pos ha, laid, if_neg (by omega)]; rfl
      · rw [if_neg ha]
    rw [e b (by omega), e _ (by omega)]

/-- The two slices of words and errors, as a world holds them. -/
structure Told (W : World) (g1 g2 : Nat) (x0 x1 x2 x3 x4 : Nat) (e0 e1 e2 e3 e4 : Int) : Prop where
  h1 : W.heap[g1]? = some (.cells #[.int .u64 (x0 : Int), .int .u64 (x1 : Int), .int .u64 (x2 : Int), .int .u64 (x3 : Int), .int .u64 (x4 : Int)] 24 (0, 0))
  h2 : W.heap[g2]? = some (.cells #[.int .i64 e0, .int .i64 e1, .int .i64 e2, .int .i64 e3, .int .i64 e4] 25 (0, 0))
theorem Told.later {W W' : World} {g1 g2 x0 x1 x2 x3 x4 : Nat} {e0 e1 e2 e3 e4 : Int} (h : Told W g1 g2 x0 x1 x2 x3 x4 e0 e1 e2 e3 e4) (hM : Made W W') : Told W' g1 g2 x0 x1 x2 x3 x4 e0 e1 e2 e3 e4 :=
  ⟨(hM.block _ (Array.getElem?_eq_some_iff.1 h.h1).1).trans h.h1, (hM.block _ (Array.getElem?_eq_some_iff.1 h.h2).1).trans h.h2⟩
theorem made_alloc (W : World) (o : Obj) : Made W (W.alloc o) := (Made.refl W).alloc (Nat.le_refl _) _

set_option maxRecDepth 100000 in
set_option maxHeartbeats 4000000 in
theorem packs_any (a b c d : Int) (ha : I64 a) (hb : I64 b) (hc : I64 c) (hd : I64 d) (x0 x1 x2 x3 x4 : Nat) (e0 e1 e2 e3 e4 : Int)
    (p0 : Hid (packed [(32, a), (30, b), (2, c)] = (x0, e0))) (p1 : Hid (packed [(32, a), (16, b), (16, c)] = (x1, e1))) (p2 : Hid (packed [(32, a), (16, b), (16, c)] = (x2, e2))) (p3 : Hid (headPacked a b = (x3, e3))) (p4 : Hid (packed [(26, a), (5, b), (3, c), (30, d)] = (x4, e4))) (w : World) :
    Calls Try.prog 4 #[.int .i64 a, .int .i64 b, .int .i64 c, .int .i64 d] w fun e w' => e = .returned (.bool true) ∧ Made w w' := by
  go_enter Try.func4, Try.ntmps4
  go_wp2_with fail
  refine (speaks_c _).mono ?_
  rintro e w1 ⟨rfl, hM1⟩
  go_wp2_with fail
  refine (StateWord_c _ _ _ ha hb hc _).mono ?_
  rw [p0.out]
  rintro e w2 ⟨rfl, hM2⟩
  go_wp2_with fail
  refine (HomeWord_c _ _ _ ha hb hc _).mono ?_
  rw [p1.out]
  rintro e w3 ⟨rfl, hM3⟩
  go_wp2_with fail
  refine (KeyWord_c _ _ _ ha hb hc _).mono ?_
  rw [p2.out]
  rintro e w4 ⟨rfl, hM4⟩
  go_wp2_with fail
  refine (HeadWord_c _ _ ha hb _).mono ?_
  rw [p3.out]
  rintro e w5 ⟨rfl, hM5⟩
  go_wp2_with fail
  refine (ConnWord_c _ _ _ _ ha hb hc hd _).mono ?_
  rw [p4.out]
  rintro e w6 ⟨rfl, hM6⟩
  have hM : Made w w6 := Made.trans (Made.trans (Made.trans (Made.trans (Made.trans hM1 hM2) hM3) hM4) hM5) hM6
  clear hM1 hM2 hM3 hM4 hM5 hM6
  go_wp2_with fail
  have HT : Told ((w6.alloc (.cells #[.int .u64 (x0 : Int), .int .u64 (x1 : Int), .int .u64 (x2 : Int), .int .u64 (x3 : Int), .int .u64 (x4 : Int)] 24)).alloc (.cells #[.int .i64 e0, .int .i64 e1, .int .i64 e2, .int .i64 e3, .int .i64 e4] 25)) w6.heap.size (w6.heap.size + 1) x0 x1 x2 x3 x4 e0 e1 e2 e3 e4 :=
    ⟨heap_alloc2_old _ _ _, heap_alloc2_new _ _ _⟩
  have hMM : Made w ((w6.alloc (.cells #[.int .u64 (x0 : Int), .int .u64 (x1 : Int), .int .u64 (x2 : Int), .int .u64 (x3 : Int), .int .u64 (x4 : Int)] 24)).alloc (.cells #[.int .i64 e0, .int .i64 e1, .int .i64 e2, .int .i64 e3, .int .i64 e4] 25)) := Made.trans hM (Made.trans (made_alloc _ _) (made_alloc _ _))
  have hle := hM.size
  clear hM
  generalize w6.heap.size = g at HT hle ⊢
  have hbc : I64 (min b 1099511627776) ∧ I64 (min b 1099511627776 + 1) := by unfold I64 at hb ⊢; omega
  have q3 := p3
  rw [head_cap] at q3
  have q4 := p4
  rw [conn_cap] at q4
  obtain ⟨B, hB⟩ : ∃ B, B = min b 1099511627776 := ⟨_, rfl⟩
  rw [← hB] at q3 q4 hbc
  have hB1 : b < 1099511627776 → B = b := fun h => by omega
  have hB2 : 1099511627776 ≤ b → B = 1099511627776 := fun h => by omega
  have HB1 := Lib.hid hB1
  have HB2 := Lib.hid hB2
  clear hB1 hB2 hB p3 p4
  go_loopw [1, 79] (fun v1 v79 wr => ∃ k : Nat, k ≤ 5 ∧ v79 = .int .i64 k ∧ v1 = .int .i64 (if k ≤ 3 then b else B) ∧ Hid (Told wr g (g + 1) x0 x1 x2 x3 x4 e0 e1 e2 e3 e4) ∧ Made w wr) (fun _ v _ => (5 - intOf v).toNat)
  case atStart => exact ⟨0, by omega, rfl, rfl, HT, hMM⟩
  case round =>
    clear HT hMM
    obtain ⟨k, hk, rfl, rfl, HT, hMr⟩ := hrel
    rcases (show k = 0 ∨ k = 1 ∨ k = 2 ∨ k = 3 ∨ k = 4 ∨ k = 5 by omega) with rfl | rfl | rfl | rfl | rfl | rfl

    · go_wp2_with fail
      refine (widths0 _).mono ?_
      rintro e w' ⟨rfl, rfl⟩
      go_wp2_with fail
      refine (word3 32 30 2 a b c (by omega) ha hb hc _ _ _ (by go_simp) (by go_simp) (by go_simp) (by go_simp) (by go_simp) (by go_simp)).mono ?_
      rw [p0.out]
      rintro e wn ⟨rfl, hN⟩
      have hN' : Made wr wn := Made.trans (Made.trans (made_alloc _ _) (made_alloc _ _)) hN
      have HT' := Lib.hid (HT.out.later hN')
      have hM' := Made.trans hMr hN'
      have cx : wn.cell? ⟨g, 0, none⟩ = some (.int .u64 (x0 : Int)) := cell_of_row _ _ _ _ _ _ HT'.out.h1
      have ce : wn.cell? ⟨g + 1, 0, none⟩ = some (.int .i64 e0) := cell_of_row _ _ _ _ _ _ HT'.out.h2
      clear hN hN'
      go_wp2_with fail
      go_roundw
      case rel => exact ⟨1, by omega, by go_num, rfl, HT', hM'⟩
      case measure => simp [intOf]

    · go_wp2_with fail
      refine (widths1 _).mono ?_
      rintro e w' ⟨rfl, rfl⟩
      go_wp2_with fail
      refine (word3 32 16 16 a b c (by omega) ha hb hc _ _ _ (by go_simp) (by go_simp) (by go_simp) (by go_simp) (by go_simp) (by go_simp)).mono ?_
      rw [p1.out]
      rintro e wn ⟨rfl, hN⟩
      have hN' : Made wr wn := Made.trans (Made.trans (made_alloc _ _) (made_alloc _ _)) hN
      have HT' := Lib.hid (HT.out.later hN')
      have hM' := Made.trans hMr hN'
      have cx : wn.cell? ⟨g, 1, none⟩ = some (.int .u64 (x1 : Int)) := cell_of_row _ _ _ _ _ _ HT'.out.h1
      have ce : wn.cell? ⟨g + 1, 1, none⟩ = some (.int .i64 e1) := cell_of_row _ _ _ _ _ _ HT'.out.h2
      clear hN hN'
      go_wp2_with fail
      go_roundw
      case rel => exact ⟨2, by omega, by go_num, rfl, HT', hM'⟩
      case measure => simp [intOf]

    · go_wp2_with fail
      refine (widths2 _).mono ?_
      rintro e w' ⟨rfl, rfl⟩
      go_wp2_with fail
      refine (word3 32 16 16 a b c (by omega) ha hb hc _ _ _ (by go_simp) (by go_simp) (by go_simp) (by go_simp) (by go_simp) (by go_simp)).mono ?_
      rw [p2.out]
      rintro e wn ⟨rfl, hN⟩
      have hN' : Made wr wn := Made.trans (Made.trans (made_alloc _ _) (made_alloc _ _)) hN
      have HT' := Lib.hid (HT.out.later hN')
      have hM' := Made.trans hMr hN'
      have cx : wn.cell? ⟨g, 2, none⟩ = some (.int .u64 (x2 : Int)) := cell_of_row _ _ _ _ _ _ HT'.out.h1
      have ce : wn.cell? ⟨g + 1, 2, none⟩ = some (.int .i64 e2) := cell_of_row _ _ _ _ _ _ HT'.out.h2
      clear hN hN'
      go_wp2_with fail
      go_roundw
      case rel => exact ⟨3, by omega, by go_num, rfl, HT', hM'⟩
      case measure => simp [intOf]

    · by_cases hbb : b < 1099511627776
      · have hBb := HB1.out hbb
        subst hBb
        have hlo : -9223372036854775808 ≤ B := hb.1
        go_wp2_with fail
        refine (widths3 _).mono ?_
        rintro e w' ⟨rfl, rfl⟩
        go_wp2_with fail
        refine (word2 32 32 a (B + 1) (by omega) ha hbc.2 _ _ _ (by go_simp) (by go_simp) (by go_simp) (by go_simp)).mono ?_
        rw [q3.out]
        rintro e wn ⟨rfl, hN⟩
        have hN' : Made wr wn := Made.trans (Made.trans (Made.trans (made_alloc _ _) (made_alloc _ _)) (made_alloc _ _)) hN
        have HT' := Lib.hid (HT.out.later hN')
        have hM' := Made.trans hMr hN'
        have cx : wn.cell? ⟨g, 3, none⟩ = some (.int .u64 (x3 : Int)) := cell_of_row _ _ _ _ _ _ HT'.out.h1
        have ce : wn.cell? ⟨g + 1, 3, none⟩ = some (.int .i64 e3) := cell_of_row _ _ _ _ _ _ HT'.out.h2
        clear hN hN'
        go_wp2_with fail
        go_roundw
        case rel => exact ⟨4, by omega, by go_num, rfl, HT', hM'⟩
        case measure => simp [intOf]

      · have hBb := HB2.out (by omega)
        subst hBb
        go_wp2_with fail
        refine (widths3 _).mono ?_
        rintro e w' ⟨rfl, rfl⟩
        go_wp2_with fail
        refine (word2 32 32 a (1099511627776 + 1) (by omega) ha hbc.2 _ _ _ (by go_simp) (by go_simp) (by go_simp) (by go_simp)).mono ?_
        rw [q3.out]
        rintro e wn ⟨rfl, hN⟩
        have hN' : Made wr wn := Made.trans (Made.trans (Made.trans (made_alloc _ _) (made_alloc _ _)) (made_alloc _ _)) hN
        have HT' := Lib.hid (HT.out.later hN')
        have hM' := Made.trans hMr hN'
        have cx : wn.cell? ⟨g, 3, none⟩ = some (.int .u64 (x3 : Int)) := cell_of_row _ _ _ _ _ _ HT'.out.h1
        have ce : wn.cell? ⟨g + 1, 3, none⟩ = some (.int .i64 e3) := cell_of_row _ _ _ _ _ _ HT'.out.h2
        clear hN hN'
        go_wp2_with fail
        go_roundw
        case rel => exact ⟨4, by omega, by go_num, rfl, HT', hM'⟩
        case measure => simp [intOf]

    · go_wp2_with fail
      refine (widths4 _).mono ?_
      rintro e w' ⟨rfl, rfl⟩
      go_wp2_with fail
      refine (word4 26 5 3 30 a B c d (by omega) ha hbc.1 hc hd _ _ _ (by go_simp) (by go_simp) (by go_simp) (by go_simp) (by go_simp) (by go_simp) (by go_simp) (by go_simp)).mono ?_
      rw [q4.out]
      rintro e wn ⟨rfl, hN⟩
      have hN' : Made wr wn := Made.trans (Made.trans (Made.trans (made_alloc _ _) (made_alloc _ _)) (made_alloc _ _)) hN
      have HT' := Lib.hid (HT.out.later hN')
      have hM' := Made.trans hMr hN'
      have cx : wn.cell? ⟨g, 4, none⟩ = some (.int .u64 (x4 : Int)) := cell_of_row _ _ _ _ _ _ HT'.out.h1
      have ce : wn.cell? ⟨g + 1, 4, none⟩ = some (.int .i64 e4) := cell_of_row _ _ _ _ _ _ HT'.out.h2
      clear hN hN'
      go_wp2_with fail
      go_roundw
      case rel => exact ⟨5, by omega, by go_num, rfl, HT', hM'⟩
      case measure => simp [intOf]

    · go_wp2_with fail
      go_ret
      exact ⟨rfl, hMr⟩

theorem packs (a b c d : Int) (w : World) (h0 : (Lit.int .i64 a).wf = true) (h1 : (Lit.int .i64 b).wf = true) (h2 : (Lit.int .i64 c).wf = true) (h3 : (Lit.int .i64 d).wf = true) :
    Calls Try.prog 4 #[.int .i64 a, .int .i64 b, .int .i64 c, .int .i64 d] w fun e w' => e = .returned (.bool true) ∧ Made w w' := by
  have f : ∀ {x : Int}, (Lit.int .i64 x).wf = true → I64 x := fun {x} h => by
    simp [Lit.wf, IntKind.min, IntKind.max, IntKind.signed, IntKind.bits] at h
    exact h
  exact packs_any a b c d (f h0) (f h1) (f h2) (f h3) _ _ _ _ _ _ _ _ _ _ rfl rfl rfl rfl rfl w
end Go.Proofs.Ytdmjokkjhbdnnaa.Law1
