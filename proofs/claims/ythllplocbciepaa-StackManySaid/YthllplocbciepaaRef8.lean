/- The document's answer for layer 8, walked: Push, Pop. -/
import Derived.Test.YthllplocbciepaaApp
import Derived.Test.YthllplocbciepaaBackW
namespace Go.Proofs.Ythllplocbciepaa.Kod.Eight
open Go.RowKit Go.Proofs.Ythllplocbciepaa Go.Proofs.Ythllplocbciepaa.Cell Go.Proofs.Ythllplocbciepaa.Wd
set_option linter.unusedVariables false
set_option linter.unusedSimpArgs false

theorem elem_int : Elem Try.prog 32 3 (.int .i64 0) 8 := ⟨Try.underlying32, by kernel_rfl, rfl⟩
theorem ints_one (xs : List Int) : ∀ u ∈ xs.map (Value.int .i64), u.oneCell' = true := fun u hu => by
  obtain ⟨x, _, rfl⟩ := List.mem_map.1 hu
  rfl
set_option maxRecDepth 100000 in
set_option maxHeartbeats 400000 in
theorem Push8_c (A : Option Addr) (n c : Nat) (xs : List Int) (i : Int) (w : World) (hr : Reads w A n (xs.map (Value.int .i64))) (hn : n ≤ 100000) :
    Calls Try.prog 53 #[.slice A n c, .int .i64 i] w fun e w' => ∃ A' c', e = .returned (.slice A' (n + 1) c') ∧ w'.ownsRow w.heap.size 3 1 (.slice A' (n + 1) c') (n + 1) ((i :: xs).map (Value.int .i64)) ∧ Made w w' := by
  have HR := Lib.hid hr
  have HE := Lib.hid elem_int
  clear hr
  have HOW : Hid ((w.alloc (.cells #[.int .i64 i] 3)).ownsRow w.heap.size 3 1 (.slice (some ⟨w.heap.size, 0, none⟩) 1 1) 1 [.int .i64 i]) := World.ownsRow_lit (e := 3) (base := w.heap.size) (size := 1) w #[.int .i64 i] 1 (Nat.le_refl _) (by unfold maxLen; omega) (by simp)
  have HRD : Hid (Reads (w.alloc (.cells #[.int .i64 i] 3)) A n (xs.map (Value.int .i64))) := ⟨HR.out.1, fun j u hu => by
    obtain ⟨ad, h1, h2⟩ := HR.out.2 j u hu
    refine ⟨ad, h1, ?_⟩
    rw [← h2]
    exact World.cell?_of_block (heap_alloc_old _ _ (by have := Go.block_lt_of_cell h2; exact this))⟩
  go_enter Try.func53, Try.ntmps53
  go_wp2_with (at_builtin; (refine wpList_app _ rfl (.tmp 6) (.tmp 7) 32 rfl w.heap.size 3 (.int .i64 0) 8 HE.out (.slice (some ⟨w.heap.size, 0, none⟩) 1 1) 1 [.int .i64 i] (by simp [Act.eval, Act.put]) HOW.out A n c (xs.map (Value.int .i64)) (by simp [Act.eval, Act.put]) HRD.out (ints_one xs) (by unfold maxLen; omega) (by omega) (by simp only [World.size_alloc]; omega) ?_; intro A2 c2 w2 hown hgrow hat; have HO2 := Lib.hid hown; have HG2 := Lib.hid hgrow; clear hown hgrow hat))
  go_ret
  refine ⟨A2, c2, by rw [show 1 + n = n + 1 from Nat.add_comm 1 n]; rfl, ?_, ?_⟩
  · have := HO2.out
    rw [show 1 + n = n + 1 from Nat.add_comm 1 n] at this
    simpa using this
  · exact ((Below.refl w.heap.size w).alloc (Nat.le_refl _) _).grown HG2.out (by simp) (fun j ej => by
      obtain rfl : w.heap.size = j := by simpa [Value.ownBlock] using ej
      exact Nat.le_refl _)
set_option maxRecDepth 100000 in
set_option maxHeartbeats 400000 in
theorem Pop8_none (A : Option Addr) (c : Nat) (w : World) :
    Calls Try.prog 52 #[.slice A 0 c] w fun e w' => e = .returned (.tuple #[.slice A 0 c, .int .i64 (-1), .bool false]) ∧ w = w' := by
  go_enter Try.func52, Try.ntmps52
  go_wp2_with fail
  go_ret3
  exact ⟨rfl, rfl⟩
set_option maxRecDepth 100000 in
set_option maxHeartbeats 400000 in
theorem Pop8_some (a : Addr) (n c : Nat) (i : Int) (w : World) (h : w.cell? a = some (.int .i64 i)) (hn : n ≤ 100000) :
    Calls Try.prog 52 #[.slice (some a) (n + 1) c] w fun e w' => e = .returned (.tuple #[.slice (if c = 1 then some a else some (a.add 1)) n (c - 1), .int .i64 i, .bool true]) ∧ ∃ q, w' = w.drewN q := by
  have hsl := fun w1 => run_cut_from (some a) (n := n + 1) (c := c) (k := 1) (by omega) w1
  simp only [Option.map_some, Nat.add_sub_cancel] at hsl
  obtain ⟨A9, hA9⟩ : ∃ A9, A9 = (if c = 1 then some a else some (a.add 1)) := ⟨_, rfl⟩
  have hsl' : ∀ w1, (Instr.sliceAt 32 (.slice (some a) (n + 1) c) (some (.int .i64 1)) none none).run Try.prog w1 = .ok (.slice A9 n (c - 1)) w1 := fun w1 => by rw [hA9]; exact hsl w1
  rw [← hA9]
  have HW := Lib.hid hA9
  have hne : ((n : Int) + 1 == 0) = false := by rw [beq_eq_false_iff_ne]; omega
  have e0 : a.add 0 = a := by unfold Addr.add; split <;> simp_all
  have c0 : w.cell? (a.add 0) = some (.int .i64 i) := by rw [e0]; exact h
  have i0 : (0 : Int) < (n : Int) + 1 := by omega
  clear hsl hA9
  go_enter Try.func52, Try.ntmps52
  go_wp2_with fail
  go_quiet (fail)
  go_wp2_with fail
  go_ret3
  exact ⟨rfl, _, rfl⟩
end Go.Proofs.Ythllplocbciepaa.Kod.Eight
