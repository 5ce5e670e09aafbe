/- Layer 7, StepRuns: the rest. -/
import Derived.Test.YthllplocbciepaaLaw7d
namespace Go.Proofs.Ythllplocbciepaa.Cod.Seven
open Go.RowKit Go.Proofs.Ythllplocbciepaa Go.Proofs.Ythllplocbciepaa.Cell
set_option linter.unusedVariables false
set_option linter.unusedSimpArgs false
set_option maxRecDepth 100000 in
set_option maxHeartbeats 400000 in
theorem runs_far (A A' : Option Addr) (n c n' c' : Nat) (ls : List (List Acc)) (hn : Hid (n = ls.length)) (hnb : (n : Int) ≤ 9223372036854775807) (hnb' : (n' : Int) ≤ 9223372036854775807) (h : few ls = false ∨ (few ls = true ∧ 200 < n')) (w : World) (hl : Hid (RdAA w w.heap.size A ls)) :
    Calls Try.prog 9 #[.slice A n c, .slice A' n' c'] w fun e w' => e = .returned (.bool true) ∧ Made w w' := by
  rcases h with h | ⟨h, h2⟩
  · have HF := Lib.hid h
    clear h
    go_enter Try.func9, Try.ntmps9
    go_wp2_with fail
    refine (Spk7.speaks_c _).mono ?_
    rintro e w0 ⟨rfl, hm0⟩
    have HM0 := Lib.hid hm0
    clear hm0
    go_wp2_with fail
    refine (few_c A n c ls w0 w.heap.size hn hnb (hl.out.later HM0.out)).mono ?_
    rintro e w0' ⟨rfl, rfl⟩
    rw [HF.out]
    go_wp2_with fail
    refine (Spk7.speaks_c _).mono ?_
    rintro e w1 ⟨rfl, hm1⟩
    have HM1 := Lib.hid (Made.trans HM0.out hm1)
    clear hm1
    go_wp2_with fail
    go_ret
    exact ⟨rfl, HM1.out⟩
  · have HF := Lib.hid h
    have h2' : 200 < (n' : Int) := by omega
    clear h
    go_enter Try.func9, Try.ntmps9
    go_wp2_with fail
    refine (Spk7.speaks_c _).mono ?_
    rintro e w0 ⟨rfl, hm0⟩
    have HM0 := Lib.hid hm0
    clear hm0
    go_wp2_with fail
    refine (few_c A n c ls w0 w.heap.size hn hnb (hl.out.later HM0.out)).mono ?_
    rintro e w0' ⟨rfl, rfl⟩
    rw [HF.out]
    go_wp2_with fail
    refine (Spk7.speaks_c _).mono ?_
    rintro e w1 ⟨rfl, hm1⟩
    have HM1 := Lib.hid (Made.trans HM0.out hm1)
    clear hm1
    go_wp2_with fail
    go_ret
    exact ⟨rfl, HM1.out⟩
theorem runs (v : Value) (ls : List (List Acc)) (u : Value) (ps : List Int) (w : World) (hv : SlAA w v ls) (hu : SlK .i64 w u ps) (_ : ∀ z ∈ ps, (Lit.int .i64 z).wf = true) :
    Calls Try.prog 9 #[v, u] w fun e w' => e = .returned (.bool true) ∧ Made w w' := by
  obtain ⟨A, c, rfl, h1, h2, h3⟩ := hv.rd
  obtain ⟨A', c', rfl, g1, g2, g3⟩ := rd_of_slk hu
  unfold maxLen at g2
  by_cases hf : few ls = true
  · by_cases h200 : ps.length ≤ 200
    · exact runs_loop A A' ls.length c ps.length c' ls ps rfl ((few_iff ls).1 hf).2 hf rfl h200 g1 w h3 g3
    · exact runs_far A A' ls.length c ps.length c' ls rfl (by omega) (by omega) (Or.inr ⟨hf, by omega⟩) w h3
  · exact runs_far A A' ls.length c ps.length c' ls rfl (by omega) (by omega) (Or.inl (by simpa using hf)) w h3
end Go.Proofs.Ythllplocbciepaa.Cod.Seven
