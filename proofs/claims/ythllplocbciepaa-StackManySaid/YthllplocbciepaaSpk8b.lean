/- Layer 8's laws: the example (knelllaw08.speaks), walked: true. -/
import Derived.Test.YthllplocbciepaaSpk8
namespace Go.Proofs.Ythllplocbciepaa.Kod.Eight
open Go.RowKit Go.Proofs.Ythllplocbciepaa Go.Proofs.Ythllplocbciepaa.Cell Go.Proofs.Ythllplocbciepaa.Wd
set_option linter.unusedVariables false
set_option linter.unusedSimpArgs false

/-- Where the example begins. -/
def k00 : K8 := .pshL 0 [false, true, true, true] 1
def s00 : St (List W8) := ⟨0, List.replicate 4 0, [], [x0]⟩
theorem enter00 : enter 0 l0 s00 = some (k00, s00) := rfl
set_option maxRecDepth 100000 in
set_option maxHeartbeats 2000000 in
theorem speaks_c (w : World) : Calls Try.prog 49 #[] w fun e w' => e = .returned (.bool true) ∧ Made w w' := by
  have HFR : Hid (∀ w, Calls Try.prog 50 #[.int .i64 3] w fun e w' => ∃ a b, e = .returned (.tuple #[stk8 a, .bool true]) ∧ Arena w' a b 0 (List.replicate 4 0) ∧ w.heap.size ≤ a ∧ w.heap.size ≤ b ∧ Made w w') := fun w => fresh_c 3 (by omega) w
  go_enter Try.func49, Try.ntmps49
  go_wp2_with fail
  refine (HFR.out _).mono ?_
  rintro e w1 ⟨a, b, rfl, hA, hwa, hwb, hm1⟩
  have HI := Lib.hid (V5_inv hA)
  have HM5 := Lib.hid (Made.trans hm1 (V5_made a w1))
  have HO5 : Hid (Old (S8 a b (fun _ => w1.heap.size + 1)) w.heap.size (V5 a w1) ⟨[], own0 w1.heap.size, fun _ => False, [w1.heap.size + 1 + 1 + 1 + 1]⟩) := ⟨HM5.out.size, fun k hk e => by
    have := hm1.size
    simp only [Mut, S8, List.not_mem_nil, false_or, or_false] at e
    omega⟩
  have HL5 : Hid (Lies (S8 a b (fun _ => w1.heap.size + 1)) (V5 a w1) ⟨[], own0 w1.heap.size, fun _ => False, [w1.heap.size + 1 + 1 + 1 + 1]⟩ (some ⟨w1.heap.size + 1 + 1, 0, none⟩) (l0.map .bool)) := Lies.row (V5_at a w1).2.1 (fun e => by
    have la := lt_of_at hA.ha
    have lb := lt_of_at hA.hb
    simp only [Mut, S8, List.not_mem_nil, false_or, or_false] at e
    omega) (fun i v h => by simpa [l0] using h)
  have HC := Lib.hid (code_all (a := a) (b := b) (gb := fun _ => w1.heap.size + 1) link_ok l0 40 0 (w1.heap.size + 1 + 1 + 1 + 1) 5 5 200 _ _ _ s00 [] (k00, s00) HI.out rfl (Lib.hid rfl) (by omega) (by omega) HL5.out enter00)
  have HP1 : Hid ((V5 a w1).cell? ⟨w1.heap.size + 1, 0, none⟩ = some (.slice none 0 0)) := by show _ = _; rw [cell_of_row _ _ _ _ _ _ (V5_at a w1).1]; rfl
  clear hA hm1 HFR HI HL5 hwa hwb
  go_wp2_with fail
  refine HC.out.mono ?_
  rintro e w6 ⟨v1, ⟨ts6, own6, scr6, gh6⟩, rfl, hx6, hk6, hi6, hr6⟩
  obtain rfl : ts6 = [] := hk6.ts
  obtain rfl : gh6 = [w1.heap.size + 1 + 1 + 1 + 1] := hk6.gh
  have HV := Lib.hid hr6.func
  have HR7 := Lib.hid ((Ready.start (m := 40) hi6).addtask hr6)
  have HO7 := Lib.hid ((HO5.out.later hx6).later (Ext.addtask v1))
  have HM7 := Lib.hid (Below.trans HM5.out (HO5.out.below (hx6.trans (Ext.addtask v1))))
  clear hx6 hk6 hi6 hr6 HC HM5 HO5
  go_wp2_with fail
  refine (New_c HV.out).mono ?_
  rintro e w7 ⟨rfl, rfl⟩
  generalize w6.alloc (.cells #[v1, .int .i64 0] 117) = w7 at *
  generalize w6.heap.size = tb at *
  have HF : Hid (Calls Try.prog 45 #[.pointer (some ⟨tb, 0, none⟩), .int .i64 60] w7 fun e w' => e = .returned (.bool true) ∧ Hid (Made w w') ∧ ∃ q c, w'.cell? ⟨w1.heap.size + 1, 0, none⟩ = some (.slice (some ⟨q, 0, none⟩) 3 c) ∧ q < w'.heap.size ∧ ∀ k (hk : k < [2, 1, -1].length), w'.cell? ⟨q, k, none⟩ = some (.int .i64 ([2, 1, -1][k]))) := by
    refine (fin0 (m := 10) (n := 100) (g := w1.heap.size + 1) (σ0 := s00) enter00 (HR7.out.lower (m' := 10 + 15) (n' := 100 + 2 * 15) (by omega) (by omega))).mono ?_
    rintro e w' ⟨he, ⟨L', hx⟩, h⟩
    exact ⟨he, Below.trans HM7.out (HO7.out.below hx), h⟩
  clear HR7 HO7 HM7 HV HP1
  go_wp2_with fail
  refine HF.out.mono ?_
  rintro e w8 ⟨rfl, HM8, q, c, hc, hq, hcs⟩
  clear HF
  have HSA : Hid (∀ o, Calls Try.prog 33 #[.slice (some ⟨q, 0, none⟩) 3 c, .slice (some ⟨w8.heap.size, 0, none⟩) 3 3] (w8.alloc (.cells #[.int .i64 2, .int .i64 1, .int .i64 (-1)] o)) fun e w' => e = .returned (.bool true) ∧ Made (w8.alloc (.cells #[.int .i64 2, .int .i64 1, .int .i64 (-1)] o)) w') := fun o =>
    Same_c [2, 1, -1] (some ⟨q, 0, none⟩) (some ⟨w8.heap.size, 0, none⟩) 3 c 3 rfl _ (fun k hk => ⟨_, rfl, by
      have e : (⟨q, 0, none⟩ : Addr).add k = ⟨q, k, none⟩ := by unfold Addr.add; split <;> simp_all
      rw [e]
      exact (World.cell?_of_block (heap_alloc_old _ _ hq)).trans (hcs k hk)⟩) (fun k hk => ⟨_, rfl, by
      have e : (⟨w8.heap.size, 0, none⟩ : Addr).add k = ⟨w8.heap.size, k, none⟩ := by unfold Addr.add; split <;> simp_all
      rw [e, cell_of_row _ _ _ _ _ _ (heap_alloc_new _ _)]
      match k, hk with
      | 0, _ => rfl
      | 1, _ => rfl
      | 2, _ => rfl⟩) (by omega)
  have HM9 : Hid (∀ o, Made w (w8.alloc o)) := fun o => Made.trans HM8.out ((Made.refl _).alloc (Nat.le_refl _) _)
  clear hcs hq HM8
  go_wp2_with fail
  refine (HSA.out _).mono ?_
  rintro e w9 ⟨rfl, hm9⟩
  have HF := Lib.hid (Made.trans (HM9.out _) hm9)
  clear hm9 HSA HM9
  go_wp2_with fail
  go_ret
  exact ⟨rfl, HF.out⟩
end Go.Proofs.Ythllplocbciepaa.Kod.Eight
