/- Package knelllaw06: BitsTell answers true for every input. -/
import Derived.Test.YthllplocbciepaaTell
namespace Go.Proofs.Ythllplocbciepaa.Tell
open Go.RowKit Go.Shelf Go.Proofs.Ythllplocbciepaa Go.Proofs.Ythllplocbciepaa.Num Go.Proofs.Ythllplocbciepaa.SetN Go.Proofs.Ythllplocbciepaa.Bits Go.Proofs.Ythllplocbciepaa.Law6 Go.Proofs.Ythllplocbciepaa.Ref6 Go.Proofs.Ythllplocbciepaa.Each
set_option linter.unusedVariables false
set_option linter.unusedSimpArgs false

theorem cnt_up (s : Nat) : ∀ n, cnt s n = (upF s.testBit n).length
  | 0 => by simp [cnt, upF]
  | n + 1 => by
    rw [cnt, cnt_up s n]
    cases e : s.testBit n
    · rw [upF_no e]; simp
    · rw [upF_yes e]; simp
theorem pop_len (s : Nat) : pop s = (slotsI s).length := by rw [slotsI_len, ← upF_slots]; exact cnt_up s 64
theorem both_next (s : Nat) (hs : s < 2 ^ 64) (a : Int) : ∃ nx : Int, (∀ w : World, Calls Try.prog 18 #[.int .u64 (s : Int), .int .i64 a] w fun e w' => e = .returned (.int .i64 nx) ∧ w = w') ∧
    (∀ w : World, Calls Try.prog 31 #[.agg (brow s.testBit), .int .i64 a] w fun e w' => e = .returned (.int .i64 nx) ∧ Made w w') := by
  by_cases h : a ≤ 63
  · obtain ⟨f, hf⟩ : ∃ f : Nat, f ≤ 63 ∧ ∀ i : Nat, a ≤ (i : Int) ↔ f ≤ i := ⟨a.toNat, by omega, fun i => by omega⟩
    rcases next_cases s (64 - f) f (by omega) with ⟨n, h1, h2, h3, h4⟩ | h'
    · refine ⟨(n : Int), fun w => Next_some s a n hs h3 ((hf.2 n).2 h1) (fun i h5 h6 => h4 i ((hf.2 i).1 h5) h6) w, fun w => Ref6.Next_c _ a _ (.inr ⟨n, h2, rfl, h3, (hf.2 n).2 h1, fun i h5 h6 => h4 i ((hf.2 i).1 h6) h5⟩) w⟩
    · exact ⟨-1, fun w => Next_none s a hs (fun i h5 h6 => h' i ((hf.2 i).1 h5) h6) w, fun w => Ref6.Next_c _ a _ (.inl ⟨rfl, fun i h5 h6 => h' i ((hf.2 i).1 h6) h5⟩) w⟩
  · exact ⟨-1, fun w => Next_none s a hs (fun i h5 h6 => absurd h5 (by omega)) w, fun w => Ref6.Next_c _ a _ (.inl ⟨rfl, fun i h5 h6 => absurd h6 (by omega)⟩) w⟩
def wt (s : Nat) (i : Int) (c : Bool) : Nat := if c = true then addI s i else subI s i
theorem wt_lt {s : Nat} (hs : s < 2 ^ 64) (i : Int) (c : Bool) : wt s i c < 2 ^ 64 := by
  unfold wt; cases c
  · exact subI_lt hs i
  · exact addI_lt hs i
theorem wt_row (s : Nat) (i : Int) (hs : s < 2 ^ 64) (c : Bool) : brow (turnF s.testBit i c) = brow (wt s i c).testBit := by
  unfold wt; cases c
  · exact turn_without s i hs
  · exact turn_with s i hs
theorem facts (s : Nat) (hs : s < 2 ^ 64) (i a b : Int) : ∃ nx, Facts s i a b (brow s.testBit) (fun c => brow (turnF s.testBit i c)) (wt s i) (brow (midF s.testBit a b)) (midI s a b) nx (slotsI s).length := by
  obtain ⟨nx, h1, h2⟩ := both_next s hs a
  refine ⟨nx, brow_size _, brow_one _, fun w => Ref6.Of_c s hs w, fun c w => Turn_c _ i c w, fun c w => ?_, fun w => With_c s i hs w, fun w => Without_c s i hs w, fun w => Between6_c s a b hs w, fun w => Between_c _ a b w, fun w => ?_, h1, h2, fun w => ?_⟩
  · show Calls _ _ #[.agg (brow (turnF s.testBit i c))] _ _
    rw [wt_row s i hs c]
    exact Word_c _ (wt_lt hs i c) w
  · rw [mid_bits]
    exact Word_c _ (midI_lt s a b) w
  · rw [← pop_len]; exact Count_c s hs w
theorem len64 (s : Nat) : (slotsI s).length ≤ 64 := by rw [slotsI_len]; exact slots_len s
theorem listR (s : Nat) (w : World) : Calls Try.prog 32 #[.agg (brow s.testBit)] w fun e w' => ∃ L lc, e = .returned (.slice L (slotsI s).length lc) ∧ Rd .i64 w' w'.heap.size L (slotsI s) ∧ Made w w' := by
  refine (List_own s.testBit w).mono ?_
  rintro e w' ⟨v, rfl, ho, hm⟩
  rw [upF_slots, ← slotsI_vals, ← slotsI_len] at ho
  obtain ⟨L, lc, rfl, hr⟩ := own_rd rfl ho
  exact ⟨L, lc, rfl, hr, hm⟩
theorem listS (s : Nat) (hs : s < 2 ^ 64) (w : World) : Calls Try.prog 23 #[.int .u64 (s : Int)] w fun e w' => ∃ L lc, e = .returned (.slice L (slotsI s).length lc) ∧ Rd .i64 w' w'.heap.size L (slotsI s) ∧ Made w w' := by
  refine (List_c s hs w).mono ?_
  rintro e w' ⟨v, rfl, ho, hm⟩
  rw [← slotsI_vals, ← slotsI_len] at ho
  obtain ⟨L, lc, rfl, hr⟩ := own_rd rfl ho
  exact ⟨L, lc, rfl, hr, hm⟩
theorem each (s : Nat) (hs : s < 2 ^ 64) (Bx : Nat) (w : World) (hx : Bx + 1 = w.heap.size) (hb : Boxed w Bx 32 (.slice none 0 0)) :
    Calls Try.prog 28 #[.int .u64 (s : Int), .func (.func 29) #[] #[.pointer (some ⟨Bx, 0, none⟩)]] w fun e W' => (∃ r, e = .returned r) ∧ (∃ L lc, Boxed W' Bx 32 (.slice L (slotsI s).length lc) ∧ Rd .i64 W' W'.heap.size L (slotsI s)) ∧ Below Bx w W' := by
  refine (callsIn_wide.1 (Each_in s hs Bx w hx hb)).mono ?_
  rintro e W' ⟨hr, ⟨v, hv, ho⟩, hB⟩
  rw [← slotsI_vals, ← slotsI_len] at ho
  obtain ⟨L, lc, rfl, hl⟩ := own_rd rfl ho
  exact ⟨hr, ⟨L, lc, hv, hl⟩, hB⟩
theorem tell (x i a b : Int) (w : World) (h0 : (Lit.int .u64 x).wf = true) (_ : (Lit.int .i64 i).wf = true) (_ : (Lit.int .i64 a).wf = true) (_ : (Lit.int .i64 b).wf = true) :
    Calls Try.prog 6 #[.int .u64 x, .int .i64 i, .int .i64 a, .int .i64 b] w fun e w' => e = .returned (.bool true) ∧ Made w w' := by
  obtain ⟨s, rfl, hs⟩ := Law6.u64_of h0
  obtain ⟨nx, hF⟩ := facts s hs i a b
  by_cases h : 0 ≤ i ∧ i < 64
  · obtain ⟨n, rfl⟩ := Int.eq_ofNat_of_zero_le h.1
    have hn : n < 64 := by omega
    exact tell_in s n (s.testBit n) hn a b _ _ _ _ _ nx _ hF (fun w => Has_yes s n hs hn w) (brow_get _ _ hn) (fun Bx w hx hb => each s hs Bx w hx hb) rfl (len64 s) (fun w => listR s w) (fun w => listS s hs w) w
  · exact tell_out s i h a b _ _ _ _ _ nx _ hF (fun w => Has_no s i hs h w) (fun Bx w hx hb => each s hs Bx w hx hb) rfl (len64 s) (fun w => listR s w) (fun w => listS s hs w) w
end Go.Proofs.Ythllplocbciepaa.Tell
