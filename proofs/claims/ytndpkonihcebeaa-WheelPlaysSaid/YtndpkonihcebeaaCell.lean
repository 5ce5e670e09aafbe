/- Package cell, walked: an arena of cells. -/
import Derived.Test.YtndpkonihcebeaaAtom
import Derived.Laws.MakeOwn
namespace Go.Proofs.Ytndpkonihcebeaa.Cell
open Go.RowKit Go.Proofs.Ytndpkonihcebeaa
set_option linter.unusedVariables false
set_option linter.unusedSimpArgs false

/-- The row of an arena's cells. -/
def row (xs : List Int) : Array Value := (xs.map (Value.int .u64)).toArray
/-- An arena at block a, whose cells lie in block b. -/
structure Arena (w : World) (a b : Nat) (c : Int) (xs : List Int) : Prop where
  ha : w.heap[a]? = some (.cells #[.slice (some ⟨b, 0, none⟩) xs.length xs.length, .int .i64 c] 127 (0, 0))
  hb : w.heap[b]? = some (.cells (row xs) 130 (0, 0))
  ne : a ≠ b
  c0 : 0 ≤ c
  c1 : c < 4611686018427387904
/-- Nothing but these two blocks has turned. -/
structure Turned (a b : Nat) (w w' : World) : Prop where
  os : w'.os = w.os
  tape : w'.tape = w.tape
  output : w'.output = w.output
  size : w'.heap.size = w.heap.size
  block : ∀ k, k ≠ a → k ≠ b → w'.heap[k]? = w.heap[k]?

theorem u64_info : (Try.prog.info? 130).map (fun i => (i.zero, i.size, i.bytes)) = some (some (.agg #[.int .u64 0]), 1, 8) := by kernel_rfl
theorem made_row (n : Nat) : madeCells (Value.agg #[.int .u64 0]).cells n = row (List.replicate n 0) := by
  unfold madeCells row
  apply Array.ext
  · simp
  · intro k h1 h2
    simp [Value.cells, Nat.mod_one]
theorem make_run (n : Nat) (h : n ≤ 1048576) (w : World) : (Instr.makeSlice 120 (.int .i64 (n : Int)) (.int .i64 (n : Int))).run Try.prog w =
    .ok (.slice (some ⟨w.heap.size, 0, none⟩) n n) (w.alloc (.cells (row (List.replicate n 0)) 130)) := by
  obtain ⟨i, hi, hq⟩ := Option.map_eq_some_iff.1 u64_info
  simp only [Prod.mk.injEq] at hq
  obtain ⟨hz, hs, hb⟩ := hq
  have := run_makeSlice (P := Try.prog) w 120 130 i _ (by kernel_rfl) hi hz .i64 .i64 n n (by omega) (by omega) (by rw [hs]; simp; omega) (by rw [hb]; omega) (by omega)
  rw [this, hs]
  simp only [Int.toNat_natCast, Nat.mul_one]
  rw [made_row]

theorem alloc_new (w : World) (o : Obj) : (w.alloc o).heap[w.heap.size]? = some o := by
  show (w.heap.push o)[w.heap.size]? = some o
  simp
theorem alloc_old (w : World) (o : Obj) (k : Nat) (h : k < w.heap.size) : (w.alloc o).heap[k]? = w.heap[k]? := by
  unfold World.alloc
  rw [Array.getElem?_push, if_neg (by omega)]
theorem Turned.refl (a b : Nat) (w : World) : Turned a b w w := ⟨rfl, rfl, rfl, rfl, fun _ _ _ => rfl⟩
theorem Turned.trans {a b : Nat} {u v w : World} (h : Turned a b u v) (k : Turned a b v w) : Turned a b u w :=
  ⟨k.os.trans h.os, k.tape.trans h.tape, k.output.trans h.output, k.size.trans h.size, fun i h1 h2 => (k.block i h1 h2).trans (h.block i h1 h2)⟩
theorem heap_setCell_other (w : World) (g o k : Nat) (v : Value) (h : k ≠ g) : (w.setCell ⟨g, o, none⟩ v).heap[k]? = w.heap[k]? := by
  simp only [World.setCell, Array.getElem?_modify]
  rw [if_neg (fun e => h e.symm)]
theorem Turned.setA (a b o : Nat) (w : World) (v : Value) : Turned a b w (w.setCell ⟨a, o, none⟩ v) :=
  ⟨rfl, rfl, rfl, by simp [World.setCell], fun k h _ => heap_setCell_other _ _ _ _ _ h⟩
theorem Turned.setB (a b o : Nat) (w : World) (v : Value) : Turned a b w (w.setCell ⟨b, o, none⟩ v) :=
  ⟨rfl, rfl, rfl, by simp [World.setCell], fun k _ h => heap_setCell_other _ _ _ _ _ h⟩
theorem Turned.below {a b B : Nat} {u w : World} (h : Turned a b u w) (ha : B ≤ a) (hb : B ≤ b) : Below B u w :=
  ⟨h.os, h.tape, h.output, by rw [h.size]; exact Nat.le_refl _, fun k hk => h.block k (by omega) (by omega)⟩

theorem Arena.seen {w : World} {a b : Nat} {c : Int} {xs : List Int} (h : Arena w a b c xs) (h1 : c + 1 < 4611686018427387904) : Arena (w.setCell ⟨a, 1, none⟩ (.int .i64 (c + 1))) a b (c + 1) xs := by
  refine ⟨?_, ?_, h.ne, by have := h.c0; omega, h1⟩
  · rw [setCell_eq_setRow _ _ _ _ _ _ _ h.ha, heap_setRow_same _ _ _ _ _ _ h.ha]; rfl
  · rw [heap_setCell_other _ _ _ _ _ (fun e => h.ne e.symm)]; exact h.hb
theorem Arena.put {w : World} {a b : Nat} {c : Int} {xs : List Int} (h : Arena w a b c xs) (i : Nat) (v : Int) : Arena (w.setCell ⟨b, i, none⟩ (.int .u64 v)) a b c (xs.set i v) := by
  refine ⟨?_, ?_, h.ne, h.c0, h.c1⟩
  · rw [heap_setCell_other _ _ _ _ _ h.ne, List.length_set]; exact h.ha
  · rw [setCell_eq_setRow _ _ _ _ _ _ _ h.hb, heap_setRow_same _ _ _ _ _ _ h.hb]
    unfold row
    rw [List.setIfInBounds_toArray, List.map_set]
theorem Arena.cell {w : World} {a b : Nat} {c : Int} {xs : List Int} (h : Arena w a b c xs) {i : Nat} (hi : i < xs.length) : w.cell? ⟨b, i, none⟩ = some (.int .u64 xs[i]) := by
  rw [cell_of_row _ _ _ _ _ _ h.hb]
  unfold row
  simp [hi]
theorem Arena.open_ {w : World} {a b : Nat} {c : Int} {xs : List Int} (h : Arena w a b c xs) : w.frozen? ⟨b, 0, none⟩ = false := by
  simp [World.frozen?, h.hb]
theorem Arena.open_at {w : World} {a b : Nat} {c : Int} {xs : List Int} (h : Arena w a b c xs) (i : Nat) : w.frozen? ⟨b, i, none⟩ = false := by
  simp [World.frozen?, h.hb]

theorem ret_of {k : IntKind} {a b : Int} (h : a = b) : Ending.returned (.int k a) = .returned (.int k b) := by rw [h]

set_option maxRecDepth 100000 in
set_option maxHeartbeats 400000 in
theorem New_yes (n : Nat) (h1 : 1 ≤ n) (h2 : n ≤ 1048576) (w : World) : Calls Try.prog 39 #[.int .i64 (n : Int)] w fun e w' =>
    e = .returned (.tuple #[.pointer (some ⟨w.heap.size + 1, 0, none⟩), .int .i64 0]) ∧ Arena w' (w.heap.size + 1) w.heap.size 0 (List.replicate n 0) ∧ w'.heap.size = w.heap.size + 2 ∧ Made w w' := by
  have hm := fun w => make_run n h2 w
  go_enter Try.func39, Try.ntmps39
  go_wp2_with fail
  go_ret2
  refine ⟨rfl, ⟨?_, ?_, by omega, by omega, by omega⟩, by simp, ((Made.refl _).alloc (Nat.le_refl _) _).alloc (by simp) _⟩
  · have e := alloc_new (w.alloc (.cells (row (List.replicate n 0)) 130)) (.cells #[.slice (some ⟨w.heap.size, 0, none⟩) n n, .int .i64 0] 127)
    rw [World.size_alloc] at e
    rw [List.length_replicate]
    exact e
  · exact (alloc_old _ _ _ (by rw [World.size_alloc]; omega)).trans (alloc_new _ _)
set_option maxRecDepth 100000 in
set_option maxHeartbeats 400000 in
theorem New_no (n : Int) (h : n < 1 ∨ 1048576 < n) (w : World) : Calls Try.prog 39 #[.int .i64 n] w fun e w' =>
    e = .returned (.tuple #[.pointer none, .int .i64 1]) ∧ w = w' := by
  rcases h with h | h
  · go_enter Try.func39, Try.ntmps39
    go_wp2_with fail
    go_ret2
    exact ⟨rfl, rfl⟩
  · have h' : ¬ n < 1 := by omega
    go_enter Try.func39, Try.ntmps39
    go_wp2_with fail
    go_ret2
    exact ⟨rfl, rfl⟩

set_option maxRecDepth 100000 in
set_option maxHeartbeats 400000 in
theorem at_yes {w : World} {a b : Nat} {c : Int} {xs : List Int} (h : Arena w a b c xs) (i : Nat) (hi : i < xs.length) :
    Calls Try.prog 54 #[.pointer (some ⟨a, 0, none⟩), .int .i64 (i : Int)] w fun e w' => e = .returned (.pointer (some ⟨b, i, none⟩)) ∧ w.setCell ⟨a, 1, none⟩ (.int .i64 (c + 1)) = w' := by
  have k0 : w.cell? ⟨a, 0, none⟩ = some (.slice (some ⟨b, 0, none⟩) xs.length xs.length) := cell_of_row _ _ _ _ _ _ h.ha
  have k1 : w.cell? ⟨a, 1, none⟩ = some (.int .i64 c) := cell_of_row _ _ _ _ _ _ h.ha
  have kz : w.frozen? ⟨a, 1, none⟩ = false := by simp [World.frozen?, h.ha]
  have c0 := h.c0
  have c1 := h.c1
  obtain ⟨n, hn⟩ : ∃ n, n = xs.length := ⟨_, rfl⟩
  rw [← hn] at k0 hi
  clear hn h
  have i1 : ¬ (n : Int) ≤ (i : Int) := by omega
  have i2 : (i : Int) < (n : Int) := by omega
  go_enter Try.func54, Try.ntmps54
  go_wp2_with fail
  refine (Atom.addI _ _ 1 _ k1 kz (by omega) (by omega)).mono ?_
  rintro e w' ⟨rfl, rfl⟩
  go_wp2_with fail
  go_ret
  exact ⟨rfl, rfl⟩
set_option maxRecDepth 100000 in
set_option maxHeartbeats 400000 in
theorem at_no {w : World} {a b : Nat} {c : Int} {xs : List Int} (h : Arena w a b c xs) (i : Int) (hi : i < 0 ∨ (xs.length : Int) ≤ i) :
    Calls Try.prog 54 #[.pointer (some ⟨a, 0, none⟩), .int .i64 i] w fun e w' => e = .returned (.pointer none) ∧ w = w' := by
  have k0 : w.cell? ⟨a, 0, none⟩ = some (.slice (some ⟨b, 0, none⟩) xs.length xs.length) := cell_of_row _ _ _ _ _ _ h.ha
  obtain ⟨n, hn⟩ : ∃ n, n = xs.length := ⟨_, rfl⟩
  rw [← hn] at k0 hi
  clear hn h
  rcases hi with h | h
  · go_enter Try.func54, Try.ntmps54
    go_wp2_with fail
    go_ret
    exact ⟨rfl, rfl⟩
  · have h' : ¬ i < 0 := by omega
    go_enter Try.func54, Try.ntmps54
    go_wp2_with fail
    go_ret
    exact ⟨rfl, rfl⟩

set_option maxRecDepth 100000 in
set_option maxHeartbeats 400000 in
theorem Load_yes {w : World} {a b : Nat} {c : Int} {xs : List Int} (h : Arena w a b c xs) (h1 : c + 1 < 4611686018427387904) (i : Nat) (hi : i < xs.length) :
    Calls Try.prog 78 #[.pointer (some ⟨a, 0, none⟩), .int .i64 (i : Int)] w fun e w' => e = .returned (.int .u64 xs[i]) ∧ Arena w' a b (c + 1) (xs) ∧ Turned a b w w' := by
  have h2 := h.seen h1
  have hc := h2.cell hi
  have hz := h2.open_at i
  have hat := at_yes h i hi
  have ht := Turned.setA a b 1 w (.int .i64 (c + 1))
  generalize w.setCell ⟨a, 1, none⟩ (.int .i64 (c + 1)) = w1 at h2 hc hz hat ht
  obtain ⟨x, hx⟩ : ∃ x, x = xs[i] := ⟨_, rfl⟩
  rw [← hx] at hc ⊢
  clear hx
  go_enter Try.func78, Try.ntmps78
  go_wp2_with fail
  refine hat.mono ?_
  rintro e w' ⟨rfl, rfl⟩
  go_wp2_with fail
  refine (Atom.load _ _ _ hc).mono ?_
  rintro e w' ⟨rfl, rfl⟩
  go_wp2_with fail
  go_ret
  exact ⟨rfl, h2, ht⟩

set_option maxRecDepth 100000 in
set_option maxHeartbeats 400000 in
theorem Store_yes {w : World} {a b : Nat} {c : Int} {xs : List Int} (h : Arena w a b c xs) (h1 : c + 1 < 4611686018427387904) (i : Nat) (v : Int) (hi : i < xs.length) :
    Calls Try.prog 23 #[.pointer (some ⟨a, 0, none⟩), .int .i64 (i : Int), .int .u64 v] w fun e w' => e = .returned (.bool true) ∧ Arena w' a b (c + 1) (xs.set i v) ∧ Turned a b w w' := by
  have h2 := h.seen h1
  have hc := h2.cell hi
  have hz := h2.open_at i
  have hat := at_yes h i hi
  have ht := Turned.setA a b 1 w (.int .i64 (c + 1))
  generalize w.setCell ⟨a, 1, none⟩ (.int .i64 (c + 1)) = w1 at h2 hc hz hat ht
  obtain ⟨x, hx⟩ : ∃ x, x = xs[i] := ⟨_, rfl⟩
  rw [← hx] at hc
  clear hx
  go_enter Try.func23, Try.ntmps23
  go_wp2_with fail
  refine hat.mono ?_
  rintro e w' ⟨rfl, rfl⟩
  go_wp2_with fail
  refine (Atom.store _ _ v _ hc hz).mono ?_
  rintro e w' ⟨rfl, rfl⟩
  go_wp2_with fail
  go_ret
  exact ⟨rfl, h2.put i _, ht.trans (Turned.setB _ _ _ _ _)⟩

set_option maxRecDepth 100000 in
set_option maxHeartbeats 400000 in
theorem Swap_yes {w : World} {a b : Nat} {c : Int} {xs : List Int} (h : Arena w a b c xs) (h1 : c + 1 < 4611686018427387904) (i : Nat) (v : Int) (hi : i < xs.length) :
    Calls Try.prog 154 #[.pointer (some ⟨a, 0, none⟩), .int .i64 (i : Int), .int .u64 v] w fun e w' => e = .returned (.int .u64 xs[i]) ∧ Arena w' a b (c + 1) (xs.set i v) ∧ Turned a b w w' := by
  have h2 := h.seen h1
  have hc := h2.cell hi
  have hz := h2.open_at i
  have hat := at_yes h i hi
  have ht := Turned.setA a b 1 w (.int .i64 (c + 1))
  generalize w.setCell ⟨a, 1, none⟩ (.int .i64 (c + 1)) = w1 at h2 hc hz hat ht
  obtain ⟨x, hx⟩ : ∃ x, x = xs[i] := ⟨_, rfl⟩
  rw [← hx] at hc ⊢
  clear hx
  go_enter Try.func154, Try.ntmps154
  go_wp2_with fail
  refine hat.mono ?_
  rintro e w' ⟨rfl, rfl⟩
  go_wp2_with fail
  refine (Atom.swap _ _ v _ hc hz).mono ?_
  rintro e w' ⟨rfl, rfl⟩
  go_wp2_with fail
  go_ret
  exact ⟨rfl, h2.put i _, ht.trans (Turned.setB _ _ _ _ _)⟩

set_option maxRecDepth 100000 in
set_option maxHeartbeats 400000 in
theorem Cas_hit {w : World} {a b : Nat} {c : Int} {xs : List Int} (h : Arena w a b c xs) (h1 : c + 1 < 4611686018427387904) (i : Nat) (o v : Int) (hi : i < xs.length) (ho : xs[i] = o) :
    Calls Try.prog 140 #[.pointer (some ⟨a, 0, none⟩), .int .i64 (i : Int), .int .u64 o, .int .u64 v] w fun e w' => e = .returned (.bool true) ∧ Arena w' a b (c + 1) (xs.set i v) ∧ Turned a b w w' := by
  have h2 := h.seen h1
  have hc := h2.cell hi
  have hz := h2.open_at i
  have hat := at_yes h i hi
  have ht := Turned.setA a b 1 w (.int .i64 (c + 1))
  generalize w.setCell ⟨a, 1, none⟩ (.int .i64 (c + 1)) = w1 at h2 hc hz hat ht
  obtain ⟨x, hx⟩ : ∃ x, x = xs[i] := ⟨_, rfl⟩
  rw [← hx] at hc ho
  clear hx
  subst ho
  go_enter Try.func140, Try.ntmps140
  go_wp2_with fail
  refine hat.mono ?_
  rintro e w' ⟨rfl, rfl⟩
  go_wp2_with fail
  refine (Atom.cas_hit _ _ v _ hc hz).mono ?_
  rintro e w' ⟨rfl, rfl⟩
  go_wp2_with fail
  go_ret
  exact ⟨rfl, h2.put i _, ht.trans (Turned.setB _ _ _ _ _)⟩

set_option maxRecDepth 100000 in
set_option maxHeartbeats 400000 in
theorem Cas_miss {w : World} {a b : Nat} {c : Int} {xs : List Int} (h : Arena w a b c xs) (h1 : c + 1 < 4611686018427387904) (i : Nat) (o v : Int) (hi : i < xs.length) (ho : ¬ xs[i] = o) :
    Calls Try.prog 140 #[.pointer (some ⟨a, 0, none⟩), .int .i64 (i : Int), .int .u64 o, .int .u64 v] w fun e w' => e = .returned (.bool false) ∧ Arena w' a b (c + 1) (xs) ∧ Turned a b w w' := by
  have h2 := h.seen h1
  have hc := h2.cell hi
  have hz := h2.open_at i
  have hat := at_yes h i hi
  have ht := Turned.setA a b 1 w (.int .i64 (c + 1))
  generalize w.setCell ⟨a, 1, none⟩ (.int .i64 (c + 1)) = w1 at h2 hc hz hat ht
  obtain ⟨x, hx⟩ : ∃ x, x = xs[i] := ⟨_, rfl⟩
  rw [← hx] at hc ho
  clear hx
  go_enter Try.func140, Try.ntmps140
  go_wp2_with fail
  refine hat.mono ?_
  rintro e w' ⟨rfl, rfl⟩
  go_wp2_with fail
  refine (Atom.cas_miss _ _ _ v _ hc hz ho).mono ?_
  rintro e w' ⟨rfl, rfl⟩
  go_wp2_with fail
  go_ret
  exact ⟨rfl, h2, ht⟩

set_option maxRecDepth 100000 in
set_option maxHeartbeats 400000 in
theorem Load_no {w : World} {a b : Nat} {c : Int} {xs : List Int} (h : Arena w a b c xs) (i : Int) (hi : i < 0 ∨ (xs.length : Int) ≤ i) :
    Calls Try.prog 78 #[.pointer (some ⟨a, 0, none⟩), .int .i64 i] w fun e w' => e = .returned (.int .u64 0) ∧ w = w' := by
  have hat := at_no h i hi
  clear h hi
  go_enter Try.func78, Try.ntmps78
  go_wp2_with fail
  refine hat.mono ?_
  rintro e w' ⟨rfl, rfl⟩
  go_wp2_with fail
  go_ret
  exact ⟨rfl, rfl⟩
set_option maxRecDepth 100000 in
set_option maxHeartbeats 400000 in
theorem Store_no {w : World} {a b : Nat} {c : Int} {xs : List Int} (h : Arena w a b c xs) (i : Int) (v : Int) (hi : i < 0 ∨ (xs.length : Int) ≤ i) :
    Calls Try.prog 23 #[.pointer (some ⟨a, 0, none⟩), .int .i64 i, .int .u64 v] w fun e w' => e = .returned (.bool false) ∧ w = w' := by
  have hat := at_no h i hi
  clear h hi
  go_enter Try.func23, Try.ntmps23
  go_wp2_with fail
  refine hat.mono ?_
  rintro e w' ⟨rfl, rfl⟩
  go_wp2_with fail
  go_ret
  exact ⟨rfl, rfl⟩
set_option maxRecDepth 100000 in
set_option maxHeartbeats 400000 in
theorem Swap_no {w : World} {a b : Nat} {c : Int} {xs : List Int} (h : Arena w a b c xs) (i : Int) (v : Int) (hi : i < 0 ∨ (xs.length : Int) ≤ i) :
    Calls Try.prog 154 #[.pointer (some ⟨a, 0, none⟩), .int .i64 i, .int .u64 v] w fun e w' => e = .returned (.int .u64 0) ∧ w = w' := by
  have hat := at_no h i hi
  clear h hi
  go_enter Try.func154, Try.ntmps154
  go_wp2_with fail
  refine hat.mono ?_
  rintro e w' ⟨rfl, rfl⟩
  go_wp2_with fail
  go_ret
  exact ⟨rfl, rfl⟩
set_option maxRecDepth 100000 in
set_option maxHeartbeats 400000 in
theorem Cas_no {w : World} {a b : Nat} {c : Int} {xs : List Int} (h : Arena w a b c xs) (i : Int) (o v : Int) (hi : i < 0 ∨ (xs.length : Int) ≤ i) :
    Calls Try.prog 140 #[.pointer (some ⟨a, 0, none⟩), .int .i64 i, .int .u64 o, .int .u64 v] w fun e w' => e = .returned (.bool false) ∧ w = w' := by
  have hat := at_no h i hi
  clear h hi
  go_enter Try.func140, Try.ntmps140
  go_wp2_with fail
  refine hat.mono ?_
  rintro e w' ⟨rfl, rfl⟩
  go_wp2_with fail
  go_ret
  exact ⟨rfl, rfl⟩
end Go.Proofs.Ytndpkonihcebeaa.Cell
