/- Statement InboxAgain (layer 9), walked: true, for all whole numbers of eight bits. -/
import Derived.Test.YtndpkonihcebeaaSpk9b
namespace Go.Proofs.Ytndpkonihcebeaa.Kod.Nine
open Go.RowKit Go.Proofs.Ytndpkonihcebeaa Go.Proofs.Ytndpkonihcebeaa.Cell Go.Proofs.Ytndpkonihcebeaa.Wd
set_option linter.unusedVariables false
set_option linter.unusedSimpArgs false

theorem elem_int9 : Elem Try.prog 23 3 (.int .i64 0) 8 := ⟨ints_under, by kernel_rfl, rfl⟩
/-- A slice of the law's own that grows. -/
structure Grw (w2 wr : World) (A : Option Addr) (c k : Nat) (vs : List Int) : Prop where
  len : k = vs.length
  row : wr.ownsRow w2.heap.size 3 1 (.slice A k c) k (vs.map (.int .i64))
  bel : Made w2 wr
theorem Grw.start (w : World) : Grw w w none 0 0 [] := ⟨rfl, World.ownsRow_nil _ _ _ _, Made.refl w⟩
theorem Grw.app {w2 wr w5 : World} {A A5 : Option Addr} {c c5 k : Nat} {vs : List Int} {x : Int} {o : Obj} (h : Grw w2 wr A c k vs) (hown : w5.ownsRow w2.heap.size 3 1 (.slice A5 (k + 1) c5) (k + 1) (vs.map (.int .i64) ++ [.int .i64 x])) (hgrow : (wr.alloc o).grownBy w5 (Value.slice A k c).ownBlock) : Grw w2 w5 A5 c5 (k + 1) (vs ++ [x]) :=
  ⟨by simp [h.len], by simpa using hown, Below.trans (B := w2.heap.size) h.bel (app_below h.row h.bel.size hgrow)⟩
/-- The tickets of the law. -/
def nums9 (b : Int) (k : Nat) : List Int := (List.range k).map fun (i : Nat) => b + (i : Int)
theorem nums9_succ (b : Int) (k : Nat) : nums9 b (k + 1) = nums9 b k ++ [b + (k : Int)] := by simp [nums9, List.range_succ]
theorem nums9_len (b : Int) (k : Nat) : (nums9 b k).length = k := by simp [nums9]
theorem nums9_mem {b : Int} {k : Nat} {i : Int} (h : i ∈ nums9 b k) : b ≤ i ∧ i < b + k := by
  simp [nums9] at h
  obtain ⟨a, h1, rfl⟩ := h
  omega
theorem nums9_once (b : Int) (k : Nat) : (nums9 b k).Nodup := by
  induction k with
  | zero => simp [nums9]
  | succ k ih =>
    rw [nums9_succ, List.nodup_append]
    refine ⟨ih, by simp, fun x hx y hy => ?_⟩
    have := nums9_mem hx
    simp at hy
    omega
/-- What the law's rounds come to. -/
def bls1 (n m : Nat) : Nat → List Int × List (List Int × List Int)
  | 0 => ([], [([], [])])
  | 1 => ((nums9 0 n).reverse, [([], [])])
  | 2 => ([], [((nums9 0 n).reverse, [(n : Int)])])
  | 3 => ((nums9 10 m).reverse, [((nums9 0 n).reverse, [(n : Int)])])
  | _ => ([], [((nums9 0 n).reverse ++ (nums9 10 m).reverse, [(n : Int), (n + m : Nat), (n + m : Nat)])])
def cs1 (n m : Nat) : Nat → K9
  | 0 => kput false (nums9 0 n)
  | 1 => kdr 0 1
  | 2 => kput false (nums9 10 m)
  | _ => kdr 0 2
theorem putR_live (l : List Int) (bl : List Int) : l.foldl (putR (fun _ => false)) (bl, []) = (l.reverse ++ bl, []) := by
  induction l generalizing bl with
  | nil => rfl
  | cons t l ih =>
    have e : putR (fun _ => false) (bl, []) t = (t :: bl, []) := by
      cases bl <;> simp [putR, helpB]
    rw [List.foldl_cons, e, ih]
    simp
theorem fin_kput (l bl : List Int) (ow : List (List Int × List Int)) : fin9 (fun _ => false) bl [] [] ow (kput false l) = (l.reverse ++ bl, [], ow) := by
  cases l with
  | nil => rfl
  | cons t l =>
    have := putR_live (t :: l) bl
    simp only [kput, fin9]
    rw [this]
theorem cost_kput (l bl : List Int) : cost9 bl [] (kput false l) ≤ 4 + 7 * bl.length + 11 * l.length := by
  cases l with
  | nil => simp [kput, cost9]
  | cons t l => simp [kput, cost9]; omega
theorem so_kput {nn : Nat} {xs l : List Int} {ow : List (List Int × List Int)} (h1 : l.Nodup) (h2 : ∀ i ∈ l, 0 ≤ i ∧ i < nn) : So nn (fun _ => false) xs [] [] [] ow (kput false l) := by
  cases l with
  | nil => exact rfl
  | cons t l => exact ⟨rfl, rfl, by simpa using h1, by simpa using h2⟩
theorem rounds1 {n m : Nat} (hn : n < 10) (hm : m < 10) (j : Nat) (hj : j < 4) : (∀ xs, So 20 (fun _ => false) xs (bls1 n m j).1 [] [] (bls1 n m j).2 (cs1 n m j)) ∧ fin9 (fun _ => false) (bls1 n m j).1 [] [] (bls1 n m j).2 (cs1 n m j) = ((bls1 n m (j + 1)).1, [], (bls1 n m (j + 1)).2) ∧ cost9 (bls1 n m j).1 [] (cs1 n m j) ≤ 400 := by
  have hr : ∀ b k, (nums9 b k).reverse.length = k := fun b k => by rw [List.length_reverse, nums9_len]
  obtain rfl | rfl | rfl | rfl : j = 0 ∨ j = 1 ∨ j = 2 ∨ j = 3 := by omega
  · refine ⟨fun xs => so_kput (nums9_once _ _) fun i hi => by have := nums9_mem hi; omega, by simp only [bls1, cs1, fin_kput, List.append_nil], ?_⟩
    have := cost_kput (nums9 0 n) []
    rw [nums9_len] at this
    simp only [bls1, cs1]
    simp only [List.length_nil] at this
    omega
  · refine ⟨fun xs => ⟨rfl, ⟨by simpa [bls1] using (List.reverse_perm _).nodup_iff.2 (nums9_once 0 n), fun i hi => by simp [bls1] at hi; have := nums9_mem hi; omega⟩, _, rfl, by simp only [bls1, hr]; simp; omega, by simp⟩, ?_, ?_⟩
    · simp [bls1, cs1, kdr, fin9, drR, nums9_len]
    · simp only [bls1, cs1, kdr, cost9, hr]; omega
  · refine ⟨fun xs => so_kput (nums9_once _ _) fun i hi => by have := nums9_mem hi; omega, by simp only [bls1, cs1, fin_kput, List.append_nil], ?_⟩
    have := cost_kput (nums9 10 m) []
    rw [nums9_len] at this
    simp only [bls1, cs1]
    simp only [List.length_nil] at this
    omega
  · refine ⟨fun xs => ⟨rfl, ⟨by simpa [bls1] using (List.reverse_perm _).nodup_iff.2 (nums9_once 10 m), fun i hi => by simp [bls1] at hi; have := nums9_mem hi; omega⟩, _, rfl, by simp only [bls1, hr]; omega, by simp⟩, ?_, ?_⟩
    · simp [bls1, cs1, kdr, fin9, drR, nums9_len, List.replicate]
    · simp only [bls1, cs1, kdr, cost9, hr]; omega
end Go.Proofs.Ytndpkonihcebeaa.Kod.Nine
