/- Package knellref02, walked: New, Has, Do. -/
import Derived.Test.YthllplocbciepaaCell3
import Derived.Laws.AppendOwn
import Derived.Laws.OwnMore
namespace Go.Proofs.Ythllplocbciepaa.Ref2
open Go.RowKit Go.Proofs.Ythllplocbciepaa Go.Proofs.Ythllplocbciepaa.Cell
set_option linter.unusedVariables false
set_option linter.unusedSimpArgs false

set_option maxHeartbeats 400000 in
theorem Has_yes (A : Option Addr) (n c : Nat) (cnt : Int) (i : Nat) (h : i < n) (hn : (n : Int) ≤ 9223372036854775807) (w : World) :
    Calls Try.prog 107 #[.agg #[.slice A n c, .int .i64 cnt], .int .i64 (i : Int)] w fun e w' => e = .returned (.bool true) ∧ Made w w' := by
  have i0 : 0 ≤ (i : Int) := by omega
  have i1 : (i : Int) < (n : Int) := by omega
  go_enter Try.func107, Try.ntmps107
  go_wp2_with fail
  go_ret
  exact ⟨rfl, (Made.refl w).alloc (Nat.le_refl _) _⟩
set_option maxHeartbeats 400000 in
theorem Has_no (A : Option Addr) (n c : Nat) (cnt : Int) (i : Int) (h : i < 0 ∨ (n : Int) ≤ i) (hn : (n : Int) ≤ 9223372036854775807) (w : World) :
    Calls Try.prog 107 #[.agg #[.slice A n c, .int .i64 cnt], .int .i64 i] w fun e w' => e = .returned (.bool false) ∧ Made w w' := by
  rcases h with h | h
  · have hd : decide (0 ≤ i) = false := by simp; omega
    go_enter Try.func107, Try.ntmps107
    go_wp2_with fail
    go_ret
    exact ⟨rfl, (Made.refl w).alloc (Nat.le_refl _) _⟩
  · have hd : decide (0 ≤ i) = true := by simp; omega
    have i0 : 0 ≤ i := by omega
    have hd2 : decide (i < (n : Int)) = false := by simp; omega
    go_enter Try.func107, Try.ntmps107
    go_wp2_with fail
    go_ret
    exact ⟨rfl, (Made.refl w).alloc (Nat.le_refl _) _⟩

/-- What an access tells, and what the cell has then. -/
def now (kind old v was : Int) : Int := if kind = 1 ∨ kind = 2 then v else if kind = 3 then (if was = old then v else was) else if kind = 4 then IntKind.u64.wrap (was + v) else was
def val (kind was : Int) : Int := if kind = 1 ∨ kind = 3 then 0 else was
def isOk (kind old was : Int) : Bool := if kind = 1 then true else if kind = 3 then decide (was = old) else false

theorem made_of_grown {w w' : World} {o : Obj} (h : (w.alloc o).grownBy w' (some w.heap.size)) : Made w w' :=
  ⟨h.os, h.tape, h.output, Nat.le_trans (by simp) h.size, fun k hk => (h.block k (by simp; omega) (by intro e; injection e with e; omega)).trans (alloc_old w o k hk)⟩
/-- What an append of these numbers to an empty row leaves. -/
theorem own_form {w : World} {base : Nat} {v : Value} {n : Nat} {xs : List Int} (hn : n = xs.length) (h1 : 1 ≤ n) (h : w.ownsRow base 22 1 v (0 + n) ([] ++ xs.map (Value.int .u64))) :
    ∃ g cap cur, v = .slice (some ⟨g, 0, none⟩) n cap ∧ base ≤ g ∧ w.heap[g]? = some (.cells cur 22 (0, 0)) ∧ ∀ i (hi : i < xs.length), cur[i]? = some (.int .u64 xs[i]) := by
  obtain ⟨hl, h | ⟨g, cap, cur, rfl, hb, hc, hnc, hm, hs, ht⟩⟩ := h
  · omega
  · rw [Nat.zero_add, Nat.mul_one] at ht
    have hk : ∀ i (hi : i < xs.length), cur[i]? = some (.int .u64 xs[i]) := fun i hi => by
      have e : (cur.toList.take n)[i]? = (xs.map (Value.int .u64))[i]? := by rw [ht]; rfl
      rw [List.getElem?_take_of_lt (by omega)] at e
      simpa [hi] using e
    exact ⟨g, cap, cur, by rw [Nat.zero_add], hb, hc, hk⟩
theorem rd_news {k : IntKind} {w : World} {B : Nat} {a : Addr} {xs : List Int} (h : Rd k w B (some a) xs) (j : Nat) (u : Value) (hu : (xs.map (Value.int k))[j]? = some u) : w.cell? (a.add j) = some u := by
  have hj : j < xs.length := by
    have := (List.getElem?_eq_some_iff.1 hu).1
    simpa using this
  obtain ⟨b, hb, _, hc⟩ := h j hj
  injection hb with hb
  subst hb
  rw [hc, ← hu]
  simp [hj]

theorem results_cell_tmp2 {P : Program} {fn : Func} {p t u : Tmp} {ty : TypeId} (h : fn.results = #[.cell p ty, .tmp t, .tmp u]) (tmps : Array Value) (w : World) (g : Nat) (tt : TypeId) (cs : Array Value) (fr : Nat × Nat) (d : TypeDesc)
    (hp : tmps.getD p undef = .pointer (some ⟨g, 0, none⟩)) (hg : w.heap[g]? = some (.cells cs tt fr))
    (hu : P.underlying ty = some d) (hd : (match d with | .struct _ | .array _ _ => true | _ => false) = true) (hi : (P.info? ty).map (·.size) = some cs.size) :
    (results fn tmps).run P w = .ok (.tuple #[.agg cs, tmps.getD t undef, tmps.getD u undef]) w := by
  have hp' : tmps[p]?.getD undef = .pointer (some ⟨g, 0, none⟩) := by simpa using hp
  simp [results, h, hp', asAddr, run_loadVar_row w g tt ty cs fr d hg hu hd hi]
theorem rd_same {k : IntKind} {w w' : World} {B : Nat} {A : Option Addr} {xs : List Int} (h : Rd k w B A xs) (m : Below B w w') (hB : B ≤ w'.heap.size) : Rd k w' w'.heap.size A xs := (h.later m).more hB

theorem size_setCell (w : World) (p : Addr) (v : Value) : (w.setCell p v).heap.size = w.heap.size := by simp [World.setCell]
theorem le_alloc_set (w1 : World) (p : Addr) (v : Value) (o : Obj) : w1.heap.size ≤ ((w1.setCell p v).alloc o).heap.size := by
  rw [World.size_alloc, size_setCell]
  exact Nat.le_succ _
theorem le_set {w1 : World} (p : Addr) (v : Value) {B : Nat} (h : B ≤ w1.heap.size) : B ≤ (w1.setCell p v).heap.size := by
  rw [size_setCell]
  exact h
theorem set_all {cur : Array Value} {xs : List Int} (h : ∀ i (hi : i < xs.length), cur[i]? = some (.int .u64 xs[i])) (i : Nat) (v : Int) (j : Nat) (hj : j < (xs.set i v).length) : (cur.setIfInBounds i (.int .u64 v))[j]? = some (.int .u64 (xs.set i v)[j]) := by
  have hj' : j < xs.length := by simpa using hj
  have hc := h j hj'
  rw [Array.getElem?_setIfInBounds, List.getElem_set]
  by_cases e : i = j
  · rw [if_pos e, if_pos e, if_pos (by subst e; exact (Array.getElem?_eq_some_iff.1 hc).1)]
  · rw [if_neg e, if_neg e]; exact hc
theorem own_start (w1 : World) (p : Addr) (v : Value) : ((w1.setCell p v).alloc (.cells #[] 22)).ownsRow w1.heap.size 22 1 (.slice (some ⟨w1.heap.size, 0, none⟩) 0 0) 0 [] := by
  have := World.ownsRow_made (e := 22) (size := 1) (base := w1.heap.size) (w1.setCell p v) #[] 0 (by rw [size_setCell]; exact Nat.le_refl _) (by unfold maxLen; omega) rfl
  rw [size_setCell] at this
  exact this
theorem after_app {w w1 w2 : World} {a : Addr} {n c : Nat} {cnt : Int} {o : Obj} (h0 : w1.heap[w.heap.size]? = some (.cells #[.slice (some a) n c, .int .i64 cnt] 68 (0, 0))) (h1 : w1.heap[w.heap.size + 1]? = some (.cells #[.slice none 0 0, .int .i64 0] 68 (0, 0)))
    (hB : Made w w1) (hg : ((w1.setCell ⟨w.heap.size, 1, none⟩ (.int .i64 (cnt + 1))).alloc o).grownBy w2 (some w1.heap.size)) :
    w2.heap[w.heap.size]? = some (.cells #[.slice (some a) n c, .int .i64 (cnt + 1)] 68 (0, 0)) ∧ w2.heap[w.heap.size + 1]? = some (.cells #[.slice none 0 0, .int .i64 0] 68 (0, 0)) ∧ Made w w2 ∧ w1.heap.size ≤ w2.heap.size := by
  rw [← size_setCell w1 ⟨w.heap.size, 1, none⟩ (.int .i64 (cnt + 1))] at hg
  have hM := made_of_grown hg
  have hMs := hM.size
  rw [size_setCell] at hMs
  have hl := (Array.getElem?_eq_some_iff.1 h1).1
  refine ⟨?_, ?_, ?_, hMs⟩
  · rw [hM.block _ (by rw [size_setCell]; omega), setCell_eq_setRow _ _ _ _ _ _ _ h0, heap_setRow_same _ _ _ _ _ _ h0]; rfl
  · rw [hM.block _ (by rw [size_setCell]; omega), Cell.heap_setCell_other _ _ _ _ _ (by omega)]; exact h1
  · exact Below.trans (Below.setCell hB (Nat.le_refl _) _) (Below.mono hM (by rw [size_setCell]; exact hB.size))

/-- What Do leaves. -/
def DoPost (A0 : Option Addr) (w : World) (xs : List Int) (cnt vl : Int) (ok : Bool) (e : Ending) (w' : World) : Prop :=
  ∃ (A : Option Addr) (c : Nat), (A = A0 ∨ ∃ p : Addr, A = some p ∧ w.heap.size ≤ p.block) ∧ e = .returned (.tuple #[.agg #[.slice A xs.length c, .int .i64 cnt], .int .u64 vl, .bool ok]) ∧ Rd .u64 w' w'.heap.size A xs ∧ Made w w'

set_option maxRecDepth 100000 in
set_option maxHeartbeats 1000000 in
theorem Do_none (A : Option Addr) (n c : Nat) (cnt kind i old v : Int) (xs : List Int) (hn : n = xs.length) (h : i < 0 ∨ (n : Int) ≤ i) (hnn : (n : Int) ≤ 9223372036854775807) (w : World) (hr : Rd .u64 w w.heap.size A xs) :
    Calls Try.prog 94 #[.agg #[.slice A n c, .int .i64 cnt], .int .i64 kind, .int .i64 i, .int .u64 old, .int .u64 v] w (DoPost A w xs cnt 0 false) := by
  have HH := Lib.hid (Has_no A n c cnt i h hnn)
  have HN := Lib.hid hn
  have HR := Lib.hid hr
  clear h hr hn
  go_enter Try.func94, Try.ntmps94
  go_wp2_with fail
  refine (HH.out _).mono ?_
  rintro e w1 ⟨rfl, hM⟩
  have hs := hM.size
  simp at hs
  have h0 : w1.heap[w.heap.size]? = some (.cells #[.slice A n c, .int .i64 cnt] 68 (0, 0)) := (hM.block _ (by simp; omega)).trans (heap_alloc2_old _ _ _)
  have h1 : w1.heap[w.heap.size + 1]? = some (.cells #[.slice none 0 0, .int .i64 0] 68 (0, 0)) := (hM.block _ (by simp)).trans (by rw [show w.heap.size + 1 = (w.alloc (.cells #[.slice A n c, .int .i64 cnt] 68)).heap.size by simp]; exact heap_alloc_new _ _)
  have c0 : w1.cell? ⟨w.heap.size, 0, none⟩ = some (.slice A n c) := cell_of_row _ _ _ _ _ _ h0
  have c1 : w1.cell? ⟨w.heap.size, 1, none⟩ = some (.int .i64 cnt) := cell_of_row _ _ _ _ _ _ h0
  have d0 : w1.cell? ⟨w.heap.size + 1, 0, none⟩ = some (.slice none 0 0) := cell_of_row _ _ _ _ _ _ h1
  have d1 : w1.cell? ⟨w.heap.size + 1, 1, none⟩ = some (.int .i64 0) := cell_of_row _ _ _ _ _ _ h1
  have z0 : w1.frozen? ⟨w.heap.size + 1, 0, none⟩ = false := frozen_of_row _ _ _ _ _ h1
  have z1 : w1.frozen? ⟨w.heap.size + 1, 1, none⟩ = false := frozen_of_row _ _ _ _ _ h1
  have hlt : w.heap.size + 1 < w1.heap.size := by omega
  have HB : Hid (Made w w1) := Made.trans (((Made.refl w).alloc (Nat.le_refl _) _).alloc (by simp) _) hM
  clear hM h0
  have H1 := Lib.hid h1
  clear h1
  have HZ := Lib.hid (show (Try.prog.info? 68).map (·.size) = some 2 by kernel_rfl)
  go_wp2_with fail
  refine bodyPost_ret (results_cell_tmp2 rfl _ _ (w.heap.size + 1) 68 #[.slice A n c, .int .i64 cnt] (0, 0) _ ?hp ?hg Try.underlying68 rfl HZ.out) rfl ?_
  case hp => simp [Act.put]
  case hg =>
    rw [heap_setCell_same _ _ _ _ _ _ (heap_setCell_same _ _ _ _ _ _ H1.out)]
    simp
  have hm2 := Below.setCell (p := ⟨w.heap.size + 1, 1, none⟩) (Below.setCell (p := ⟨w.heap.size + 1, 0, none⟩) HB.out (by simp) (.slice A n c)) (by simp) (.int .i64 cnt)
  have hx := HN.out
  subst hx
  exact ⟨A, c, .inl rfl, rfl, rd_same HR.out hm2 hm2.size, hm2⟩

set_option maxRecDepth 100000 in
set_option maxHeartbeats 2000000 in
theorem Do_0 (A : Option Addr) (n c : Nat) (cnt : Int) (i : Nat) (old v was : Int) (xs : List Int) (hn : n = xs.length) (h : i < n) (hnn : n ≤ 1048576) (hc0 : 0 ≤ cnt) (hc1 : cnt < 4611686018427387904) (w : World) (hr : Rd .u64 w w.heap.size A xs) (hw : ∀ hi, xs[i]'hi = was) :
    Calls Try.prog 94 #[.agg #[.slice A n c, .int .i64 cnt], .int .i64 0, .int .i64 (i : Int), .int .u64 old, .int .u64 v] w (DoPost A w xs (cnt + 1) was false) := by
  have HH := Lib.hid (Has_yes A n c cnt i h (by omega))
  have hil : i < xs.length := by omega
  obtain ⟨a, rfl, hab, hca⟩ := hr i hil
  rw [hw hil] at hca
  have HN := Lib.hid hn
  have HR := Lib.hid hr
  have HW := Lib.hid (hw hil)
  have i0 : 0 ≤ (i : Int) := by omega
  have i1 : (i : Int) < (n : Int) := by omega
  have hcb : (a.add i).block < w.heap.size := by rw [show (a.add i).block = a.block by unfold Addr.add; split <;> rfl]; exact hab
  clear hr hn hw
  obtain ⟨iu, hi, hz0⟩ := Option.map_eq_some_iff.1 uint_info
  simp only [Prod.mk.injEq] at hz0
  obtain ⟨hz0, hz1, hz2⟩ := hz0
  have HI := Lib.hid (And.intro hi (And.intro hz0 (And.intro hz1 hz2)))
  clear hi hz0 hz1 hz2
  go_enter Try.func94, Try.ntmps94
  go_wp2_with fail
  refine (HH.out _).mono ?_
  rintro e w1 ⟨rfl, hM⟩
  have hs := hM.size
  simp at hs
  have h0 : w1.heap[w.heap.size]? = some (.cells #[.slice (some a) n c, .int .i64 cnt] 68 (0, 0)) := (hM.block _ (by simp; omega)).trans (heap_alloc2_old _ _ _)
  have h1 : w1.heap[w.heap.size + 1]? = some (.cells #[.slice none 0 0, .int .i64 0] 68 (0, 0)) := (hM.block _ (by simp)).trans (by rw [show w.heap.size + 1 = (w.alloc (.cells #[.slice (some a) n c, .int .i64 cnt] 68)).heap.size by simp]; exact heap_alloc_new _ _)
  have c0 : w1.cell? ⟨w.heap.size, 0, none⟩ = some (.slice (some a) n c) := cell_of_row _ _ _ _ _ _ h0
  have c1 : w1.cell? ⟨w.heap.size, 1, none⟩ = some (.int .i64 cnt) := cell_of_row _ _ _ _ _ _ h0
  have d0 : w1.cell? ⟨w.heap.size + 1, 0, none⟩ = some (.slice none 0 0) := cell_of_row _ _ _ _ _ _ h1
  have d1 : w1.cell? ⟨w.heap.size + 1, 1, none⟩ = some (.int .i64 0) := cell_of_row _ _ _ _ _ _ h1
  have y0 : w1.frozen? ⟨w.heap.size, 0, none⟩ = false := frozen_of_row _ _ _ _ _ h0
  have y1 : w1.frozen? ⟨w.heap.size, 1, none⟩ = false := frozen_of_row _ _ _ _ _ h0
  have z0 : w1.frozen? ⟨w.heap.size + 1, 0, none⟩ = false := frozen_of_row _ _ _ _ _ h1
  have z1 : w1.frozen? ⟨w.heap.size + 1, 1, none⟩ = false := frozen_of_row _ _ _ _ _ h1
  have hlt : w.heap.size + 1 < w1.heap.size := by omega
  have hlt0 : w.heap.size < w1.heap.size := by omega
  have hB : Made w w1 := Made.trans (((Made.refl w).alloc (Nat.le_refl _) _).alloc (by simp) _) hM
  have cx : w1.cell? (a.add i) = some (.int .u64 was) := (hB.cell hcb).trans hca
  have cx2 : ∀ u : Value, (w1.setCell ⟨w.heap.size, 1, none⟩ u).cell? (a.add i) = some (.int .u64 was) := fun u => by rw [World.cell?_setCell_other w1 _ _ u (fun e => by rw [← e] at hcb; exact Nat.lt_irrefl _ hcb)]; exact cx
  have HB := Lib.hid hB
  have H0 := Lib.hid h0
  have H1 := Lib.hid h1
  clear hM h0 h1 hB
  have HZ := Lib.hid (show (Try.prog.info? 68).map (·.size) = some 2 by kernel_rfl)
  go_wp2_with fail
  refine bodyPost_ret (results_cell_tmp2 rfl _ _ (w.heap.size + 1) 68 #[.slice (some a) n c, .int .i64 (cnt + 1)] (0, 0) _ ?hp ?hg Try.underlying68 rfl HZ.out) rfl ?_
  case hp => simp [Act.put]
  case hg =>
    rw [heap_setCell_same _ _ _ _ _ _ (heap_setCell_same _ _ _ _ _ _ (by rw [Cell.heap_setCell_other _ _ _ _ _ (by omega)]; exact H1.out))]
    simp
  have hm1 := Below.setCell (p := ⟨w.heap.size, 1, none⟩) HB.out (Nat.le_refl _) (.int .i64 (cnt + 1))
  have hm2 := Below.setCell (p := ⟨w.heap.size + 1, 1, none⟩) (Below.setCell (p := ⟨w.heap.size + 1, 0, none⟩) hm1 (by simp) (.slice (some a) n c)) (by simp) (.int .i64 (cnt + 1))
  have hx := HN.out
  subst hx
  exact ⟨some a, c, .inl rfl, rfl, rd_same HR.out hm2 hm2.size, hm2⟩

set_option maxRecDepth 100000 in
set_option maxHeartbeats 2000000 in
theorem Do_1 (A : Option Addr) (n c : Nat) (cnt : Int) (i : Nat) (old v was : Int) (xs : List Int) (hn : n = xs.length) (h : i < n) (hnn : n ≤ 1048576) (hc0 : 0 ≤ cnt) (hc1 : cnt < 4611686018427387904) (w : World) (hr : Rd .u64 w w.heap.size A xs) (hw : ∀ hi, xs[i]'hi = was) (hne : ¬ v = was) :
    Calls Try.prog 94 #[.agg #[.slice A n c, .int .i64 cnt], .int .i64 1, .int .i64 (i : Int), .int .u64 old, .int .u64 v] w (DoPost A w (xs.set i v) (cnt + 1) 0 true) := by
  have HH := Lib.hid (Has_yes A n c cnt i h (by omega))
  have hil : i < xs.length := by omega
  obtain ⟨a, rfl, hab, hca⟩ := hr i hil
  rw [hw hil] at hca
  have HN := Lib.hid hn
  have HR := Lib.hid hr
  have HW := Lib.hid (hw hil)
  have i0 : 0 ≤ (i : Int) := by omega
  have i1 : (i : Int) < (n : Int) := by omega
  have hcb : (a.add i).block < w.heap.size := by rw [show (a.add i).block = a.block by unfold Addr.add; split <;> rfl]; exact hab
  clear hr hn hw
  obtain ⟨iu, hi, hz0⟩ := Option.map_eq_some_iff.1 uint_info
  simp only [Prod.mk.injEq] at hz0
  obtain ⟨hz0, hz1, hz2⟩ := hz0
  have HI := Lib.hid (And.intro hi (And.intro hz0 (And.intro hz1 hz2)))
  clear hi hz0 hz1 hz2
  go_enter Try.func94, Try.ntmps94
  go_wp2_with fail
  refine (HH.out _).mono ?_
  rintro e w1 ⟨rfl, hM⟩
  have hs := hM.size
  simp at hs
  have h0 : w1.heap[w.heap.size]? = some (.cells #[.slice (some a) n c, .int .i64 cnt] 68 (0, 0)) := (hM.block _ (by simp; omega)).trans (heap_alloc2_old _ _ _)
  have h1 : w1.heap[w.heap.size + 1]? = some (.cells #[.slice none 0 0, .int .i64 0] 68 (0, 0)) := (hM.block _ (by simp)).trans (by rw [show w.heap.size + 1 = (w.alloc (.cells #[.slice (some a) n c, .int .i64 cnt] 68)).heap.size by simp]; exact heap_alloc_new _ _)
  have c0 : w1.cell? ⟨w.heap.size, 0, none⟩ = some (.slice (some a) n c) := cell_of_row _ _ _ _ _ _ h0
  have c1 : w1.cell? ⟨w.heap.size, 1, none⟩ = some (.int .i64 cnt) := cell_of_row _ _ _ _ _ _ h0
  have d0 : w1.cell? ⟨w.heap.size + 1, 0, none⟩ = some (.slice none 0 0) := cell_of_row _ _ _ _ _ _ h1
  have d1 : w1.cell? ⟨w.heap.size + 1, 1, none⟩ = some (.int .i64 0) := cell_of_row _ _ _ _ _ _ h1
  have y0 : w1.frozen? ⟨w.heap.size, 0, none⟩ = false := frozen_of_row _ _ _ _ _ h0
  have y1 : w1.frozen? ⟨w.heap.size, 1, none⟩ = false := frozen_of_row _ _ _ _ _ h0
  have z0 : w1.frozen? ⟨w.heap.size + 1, 0, none⟩ = false := frozen_of_row _ _ _ _ _ h1
  have z1 : w1.frozen? ⟨w.heap.size + 1, 1, none⟩ = false := frozen_of_row _ _ _ _ _ h1
  have hlt : w.heap.size + 1 < w1.heap.size := by omega
  have hlt0 : w.heap.size < w1.heap.size := by omega
  have hB : Made w w1 := Made.trans (((Made.refl w).alloc (Nat.le_refl _) _).alloc (by simp) _) hM
  have cx : w1.cell? (a.add i) = some (.int .u64 was) := (hB.cell hcb).trans hca
  have cx2 : ∀ u : Value, (w1.setCell ⟨w.heap.size, 1, none⟩ u).cell? (a.add i) = some (.int .u64 was) := fun u => by rw [World.cell?_setCell_other w1 _ _ u (fun e => by rw [← e] at hcb; exact Nat.lt_irrefl _ hcb)]; exact cx
  have HB := Lib.hid hB
  have H0 := Lib.hid h0
  have H1 := Lib.hid h1
  clear hM h0 h1 hB
  have HZ := Lib.hid (show (Try.prog.info? 68).map (·.size) = some 2 by kernel_rfl)
  go_wp2_with (at_builtin; (refine wpList_append_own _ rfl (.tmp 51) (.tmp 53) 54 rfl w1.heap.size 22 iu (.int .u64 0) 1 8 Try.underlying54 HI.out.1 HI.out.2.1 HI.out.2.2.1 HI.out.2.2.2 rfl (by decide) (.slice (some ⟨w1.heap.size, 0, none⟩) 0 0) 0 [] (by simp [Act.eval, Act.put]) (own_start w1 _ _) a n c (xs.map (Value.int .u64)) (by simp [Act.eval, Act.put]) (by rw [List.length_map, ← HN.out, Nat.mul_one]) (rd_news (HR.out.later (Below.alloc (Below.setCell (p := ⟨w.heap.size, 1, none⟩) HB.out (Nat.le_refl _) _) (le_set _ _ (by omega)) _))) (by simp [Value.oneCell']) (by unfold maxLen; omega) (by omega) (le_alloc_set _ _ _ _) ?_; intro v' w2 hown hgrow _; obtain ⟨g, cp, cur, rfl, hg, hcur, hall⟩ := own_form HN.out (by omega) hown; obtain ⟨k0, k1, hB2, hs2⟩ := after_app H0.out H1.out HB.out hgrow; have hgl := (Array.getElem?_eq_some_iff.1 hcur).1; have e0 : w2.cell? ⟨w.heap.size, 0, none⟩ = some (.slice (some a) n c) := cell_of_row _ _ _ _ _ _ k0; have e1 : w2.cell? ⟨w.heap.size, 1, none⟩ = some (.int .i64 (cnt + 1)) := cell_of_row _ _ _ _ _ _ k0; have e2 : w2.cell? ⟨w.heap.size + 1, 0, none⟩ = some (.slice none 0 0) := cell_of_row _ _ _ _ _ _ k1; have e3 : w2.cell? ⟨w.heap.size + 1, 1, none⟩ = some (.int .i64 0) := cell_of_row _ _ _ _ _ _ k1; have x0 : w2.frozen? ⟨w.heap.size, 0, none⟩ = false := frozen_of_row _ _ _ _ _ k0; have x2 : w2.frozen? ⟨w.heap.size + 1, 0, none⟩ = false := frozen_of_row _ _ _ _ _ k1; have x3 : w2.frozen? ⟨w.heap.size + 1, 1, none⟩ = false := frozen_of_row _ _ _ _ _ k1; have cg : w2.cell? ⟨g, i, none⟩ = some (.int .u64 was) := (cell_of_row _ _ _ _ _ _ hcur).trans ((hall i hil).trans (by rw [HW.out])); have zg : w2.frozen? ⟨g, i, none⟩ = false := frozen_of_row _ _ _ _ _ hcur; have hgn : ¬ g = w.heap.size := (by omega); have hgn2 : ¬ w.heap.size = g := (by omega); have hgn3 : ¬ g = w.heap.size + 1 := (by omega); have hgn4 : ¬ w.heap.size + 1 = g := (by omega); have HB2 := Lib.hid hB2; have K0 := Lib.hid k0; have K1 := Lib.hid k1; have HCU := Lib.hid hcur; have HAL := Lib.hid hall; clear hown hgrow k0 k1 hB2 hcur hall))
  refine bodyPost_ret (results_cell_tmp2 rfl _ _ (w.heap.size + 1) 68 #[.slice (some ⟨g, 0, none⟩) n cp, .int .i64 (cnt + 1)] (0, 0) _ ?hp ?hg Try.underlying68 rfl HZ.out) rfl ?_
  case hp => simp [Act.put]
  case hg =>
    rw [heap_setCell_same _ _ _ _ _ _ (heap_setCell_same _ _ _ _ _ _ (by rw [Cell.heap_setCell_other _ _ _ _ _ (by omega), Cell.heap_setCell_other _ _ _ _ _ (by omega)]; exact K1.out))]
    simp
  have hlen : (xs.set i v).length = n := by rw [List.length_set]; exact HN.out.symm
  refine ⟨some ⟨g, 0, none⟩, cp, .inr ⟨_, rfl, by show w.heap.size ≤ g; omega⟩, ?_, ?_, ?_⟩
  · rw [hlen]; rfl
  · refine Rd.row (t := 22) (fr := (0, 0)) (R := cur.setIfInBounds i (.int .u64 v)) ?_ (set_all HAL.out i v) (by simp [World.setCell]; omega)
    rw [Cell.heap_setCell_other _ _ _ _ _ (by omega), Cell.heap_setCell_other _ _ _ _ _ (by omega), setCell_eq_setRow _ _ _ _ _ _ _ (by rw [Cell.heap_setCell_other _ _ _ _ _ (by omega)]; exact HCU.out), heap_setRow_same _ _ _ _ _ _ (by rw [Cell.heap_setCell_other _ _ _ _ _ (by omega)]; exact HCU.out)]
  · exact Below.setCell (Below.setCell (Below.setCell (Below.setCell HB2.out (Nat.le_refl _) _) (by simp; omega) _) (by simp) _) (by simp) _

set_option maxRecDepth 100000 in
set_option maxHeartbeats 2000000 in
theorem Do_1e (A : Option Addr) (n c : Nat) (cnt : Int) (i : Nat) (old v was : Int) (xs : List Int) (hn : n = xs.length) (h : i < n) (hnn : n ≤ 1048576) (hc0 : 0 ≤ cnt) (hc1 : cnt < 4611686018427387904) (w : World) (hr : Rd .u64 w w.heap.size A xs) (hw : ∀ hi, xs[i]'hi = was) (heq : v = was) :
    Calls Try.prog 94 #[.agg #[.slice A n c, .int .i64 cnt], .int .i64 1, .int .i64 (i : Int), .int .u64 old, .int .u64 v] w (DoPost A w xs (cnt + 1) 0 true) := by
  have HH := Lib.hid (Has_yes A n c cnt i h (by omega))
  have hil : i < xs.length := by omega
  obtain ⟨a, rfl, hab, hca⟩ := hr i hil
  rw [hw hil] at hca
  have HN := Lib.hid hn
  have HR := Lib.hid hr
  have HW := Lib.hid (hw hil)
  have i0 : 0 ≤ (i : Int) := by omega
  have i1 : (i : Int) < (n : Int) := by omega
  have hcb : (a.add i).block < w.heap.size := by rw [show (a.add i).block = a.block by unfold Addr.add; split <;> rfl]; exact hab
  clear hr hn hw
  obtain ⟨iu, hi, hz0⟩ := Option.map_eq_some_iff.1 uint_info
  simp only [Prod.mk.injEq] at hz0
  obtain ⟨hz0, hz1, hz2⟩ := hz0
  have HI := Lib.hid (And.intro hi (And.intro hz0 (And.intro hz1 hz2)))
  clear hi hz0 hz1 hz2
  go_enter Try.func94, Try.ntmps94
  go_wp2_with fail
  refine (HH.out _).mono ?_
  rintro e w1 ⟨rfl, hM⟩
  have hs := hM.size
  simp at hs
  have h0 : w1.heap[w.heap.size]? = some (.cells #[.slice (some a) n c, .int .i64 cnt] 68 (0, 0)) := (hM.block _ (by simp; omega)).trans (heap_alloc2_old _ _ _)
  have h1 : w1.heap[w.heap.size + 1]? = some (.cells #[.slice none 0 0, .int .i64 0] 68 (0, 0)) := (hM.block _ (by simp)).trans (by rw [show w.heap.size + 1 = (w.alloc (.cells #[.slice (some a) n c, .int .i64 cnt] 68)).heap.size by simp]; exact heap_alloc_new _ _)
  have c0 : w1.cell? ⟨w.heap.size, 0, none⟩ = some (.slice (some a) n c) := cell_of_row _ _ _ _ _ _ h0
  have c1 : w1.cell? ⟨w.heap.size, 1, none⟩ = some (.int .i64 cnt) := cell_of_row _ _ _ _ _ _ h0
  have d0 : w1.cell? ⟨w.heap.size + 1, 0, none⟩ = some (.slice none 0 0) := cell_of_row _ _ _ _ _ _ h1
  have d1 : w1.cell? ⟨w.heap.size + 1, 1, none⟩ = some (.int .i64 0) := cell_of_row _ _ _ _ _ _ h1
  have y0 : w1.frozen? ⟨w.heap.size, 0, none⟩ = false := frozen_of_row _ _ _ _ _ h0
  have y1 : w1.frozen? ⟨w.heap.size, 1, none⟩ = false := frozen_of_row _ _ _ _ _ h0
  have z0 : w1.frozen? ⟨w.heap.size + 1, 0, none⟩ = false := frozen_of_row _ _ _ _ _ h1
  have z1 : w1.frozen? ⟨w.heap.size + 1, 1, none⟩ = false := frozen_of_row _ _ _ _ _ h1
  have hlt : w.heap.size + 1 < w1.heap.size := by omega
  have hlt0 : w.heap.size < w1.heap.size := by omega
  have hB : Made w w1 := Made.trans (((Made.refl w).alloc (Nat.le_refl _) _).alloc (by simp) _) hM
  have cx : w1.cell? (a.add i) = some (.int .u64 was) := (hB.cell hcb).trans hca
  have cx2 : ∀ u : Value, (w1.setCell ⟨w.heap.size, 1, none⟩ u).cell? (a.add i) = some (.int .u64 was) := fun u => by rw [World.cell?_setCell_other w1 _ _ u (fun e => by rw [← e] at hcb; exact Nat.lt_irrefl _ hcb)]; exact cx
  have HB := Lib.hid hB
  have H0 := Lib.hid h0
  have H1 := Lib.hid h1
  clear hM h0 h1 hB
  have HZ := Lib.hid (show (Try.prog.info? 68).map (·.size) = some 2 by kernel_rfl)
  go_wp2_with fail
  refine bodyPost_ret (results_cell_tmp2 rfl _ _ (w.heap.size + 1) 68 #[.slice (some a) n c, .int .i64 (cnt + 1)] (0, 0) _ ?hp ?hg Try.underlying68 rfl HZ.out) rfl ?_
  case hp => simp [Act.put]
  case hg =>
    rw [heap_setCell_same _ _ _ _ _ _ (heap_setCell_same _ _ _ _ _ _ (by rw [Cell.heap_setCell_other _ _ _ _ _ (by omega)]; exact H1.out))]
    simp
  have hm1 := Below.setCell (p := ⟨w.heap.size, 1, none⟩) HB.out (Nat.le_refl _) (.int .i64 (cnt + 1))
  have hm2 := Below.setCell (p := ⟨w.heap.size + 1, 1, none⟩) (Below.setCell (p := ⟨w.heap.size + 1, 0, none⟩) hm1 (by simp) (.slice (some a) n c)) (by simp) (.int .i64 (cnt + 1))
  have hx := HN.out
  subst hx
  exact ⟨some a, c, .inl rfl, rfl, rd_same HR.out hm2 hm2.size, hm2⟩

set_option maxRecDepth 100000 in
set_option maxHeartbeats 2000000 in
theorem Do_2 (A : Option Addr) (n c : Nat) (cnt : Int) (i : Nat) (old v was : Int) (xs : List Int) (hn : n = xs.length) (h : i < n) (hnn : n ≤ 1048576) (hc0 : 0 ≤ cnt) (hc1 : cnt < 4611686018427387904) (w : World) (hr : Rd .u64 w w.heap.size A xs) (hw : ∀ hi, xs[i]'hi = was) (hne : ¬ v = was) :
    Calls Try.prog 94 #[.agg #[.slice A n c, .int .i64 cnt], .int .i64 2, .int .i64 (i : Int), .int .u64 old, .int .u64 v] w (DoPost A w (xs.set i v) (cnt + 1) was false) := by
  have HH := Lib.hid (Has_yes A n c cnt i h (by omega))
  have hil : i < xs.length := by omega
  obtain ⟨a, rfl, hab, hca⟩ := hr i hil
  rw [hw hil] at hca
  have HN := Lib.hid hn
  have HR := Lib.hid hr
  have HW := Lib.hid (hw hil)
  have i0 : 0 ≤ (i : Int) := by omega
  have i1 : (i : Int) < (n : Int) := by omega
  have hcb : (a.add i).block < w.heap.size := by rw [show (a.add i).block = a.block by unfold Addr.add; split <;> rfl]; exact hab
  clear hr hn hw
  obtain ⟨iu, hi, hz0⟩ := Option.map_eq_some_iff.1 uint_info
  simp only [Prod.mk.injEq] at hz0
  obtain ⟨hz0, hz1, hz2⟩ := hz0
  have HI := Lib.hid (And.intro hi (And.intro hz0 (And.intro hz1 hz2)))
  clear hi hz0 hz1 hz2
  go_enter Try.func94, Try.ntmps94
  go_wp2_with fail
  refine (HH.out _).mono ?_
  rintro e w1 ⟨rfl, hM⟩
  have hs := hM.size
  simp at hs
  have h0 : w1.heap[w.heap.size]? = some (.cells #[.slice (some a) n c, .int .i64 cnt] 68 (0, 0)) := (hM.block _ (by simp; omega)).trans (heap_alloc2_old _ _ _)
  have h1 : w1.heap[w.heap.size + 1]? = some (.cells #[.slice none 0 0, .int .i64 0] 68 (0, 0)) := (hM.block _ (by simp)).trans (by rw [show w.heap.size + 1 = (w.alloc (.cells #[.slice (some a) n c, .int .i64 cnt] 68)).heap.size by simp]; exact heap_alloc_new _ _)
  have c0 : w1.cell? ⟨w.heap.size, 0, none⟩ = some (.slice (some a) n c) := cell_of_row _ _ _ _ _ _ h0
  have c1 : w1.cell? ⟨w.heap.size, 1, none⟩ = some (.int .i64 cnt) := cell_of_row _ _ _ _ _ _ h0
  have d0 : w1.cell? ⟨w.heap.size + 1, 0, none⟩ = some (.slice none 0 0) := cell_of_row _ _ _ _ _ _ h1
  have d1 : w1.cell? ⟨w.heap.size + 1, 1, none⟩ = some (.int .i64 0) := cell_of_row _ _ _ _ _ _ h1
  have y0 : w1.frozen? ⟨w.heap.size, 0, none⟩ = false := frozen_of_row _ _ _ _ _ h0
  have y1 : w1.frozen? ⟨w.heap.size, 1, none⟩ = false := frozen_of_row _ _ _ _ _ h0
  have z0 : w1.frozen? ⟨w.heap.size + 1, 0, none⟩ = false := frozen_of_row _ _ _ _ _ h1
  have z1 : w1.frozen? ⟨w.heap.size + 1, 1, none⟩ = false := frozen_of_row _ _ _ _ _ h1
  have hlt : w.heap.size + 1 < w1.heap.size := by omega
  have hlt0 : w.heap.size < w1.heap.size := by omega
  have hB : Made w w1 := Made.trans (((Made.refl w).alloc (Nat.le_refl _) _).alloc (by simp) _) hM
  have cx : w1.cell? (a.add i) = some (.int .u64 was) := (hB.cell hcb).trans hca
  have cx2 : ∀ u : Value, (w1.setCell ⟨w.heap.size, 1, none⟩ u).cell? (a.add i) = some (.int .u64 was) := fun u => by rw [World.cell?_setCell_other w1 _ _ u (fun e => by rw [← e] at hcb; exact Nat.lt_irrefl _ hcb)]; exact cx
  have HB := Lib.hid hB
  have H0 := Lib.hid h0
  have H1 := Lib.hid h1
  clear hM h0 h1 hB
  have HZ := Lib.hid (show (Try.prog.info? 68).map (·.size) = some 2 by kernel_rfl)
  go_wp2_with (at_builtin; (refine wpList_append_own _ rfl (.tmp 51) (.tmp 53) 54 rfl w1.heap.size 22 iu (.int .u64 0) 1 8 Try.underlying54 HI.out.1 HI.out.2.1 HI.out.2.2.1 HI.out.2.2.2 rfl (by decide) (.slice (some ⟨w1.heap.size, 0, none⟩) 0 0) 0 [] (by simp [Act.eval, Act.put]) (own_start w1 _ _) a n c (xs.map (Value.int .u64)) (by simp [Act.eval, Act.put]) (by rw [List.length_map, ← HN.out, Nat.mul_one]) (rd_news (HR.out.later (Below.alloc (Below.setCell (p := ⟨w.heap.size, 1, none⟩) HB.out (Nat.le_refl _) _) (le_set _ _ (by omega)) _))) (by simp [Value.oneCell']) (by unfold maxLen; omega) (by omega) (le_alloc_set _ _ _ _) ?_; intro v' w2 hown hgrow _; obtain ⟨g, cp, cur, rfl, hg, hcur, hall⟩ := own_form HN.out (by omega) hown; obtain ⟨k0, k1, hB2, hs2⟩ := after_app H0.out H1.out HB.out hgrow; have hgl := (Array.getElem?_eq_some_iff.1 hcur).1; have e0 : w2.cell? ⟨w.heap.size, 0, none⟩ = some (.slice (some a) n c) := cell_of_row _ _ _ _ _ _ k0; have e1 : w2.cell? ⟨w.heap.size, 1, none⟩ = some (.int .i64 (cnt + 1)) := cell_of_row _ _ _ _ _ _ k0; have e2 : w2.cell? ⟨w.heap.size + 1, 0, none⟩ = some (.slice none 0 0) := cell_of_row _ _ _ _ _ _ k1; have e3 : w2.cell? ⟨w.heap.size + 1, 1, none⟩ = some (.int .i64 0) := cell_of_row _ _ _ _ _ _ k1; have x0 : w2.frozen? ⟨w.heap.size, 0, none⟩ = false := frozen_of_row _ _ _ _ _ k0; have x2 : w2.frozen? ⟨w.heap.size + 1, 0, none⟩ = false := frozen_of_row _ _ _ _ _ k1; have x3 : w2.frozen? ⟨w.heap.size + 1, 1, none⟩ = false := frozen_of_row _ _ _ _ _ k1; have cg : w2.cell? ⟨g, i, none⟩ = some (.int .u64 was) := (cell_of_row _ _ _ _ _ _ hcur).trans ((hall i hil).trans (by rw [HW.out])); have zg : w2.frozen? ⟨g, i, none⟩ = false := frozen_of_row _ _ _ _ _ hcur; have hgn : ¬ g = w.heap.size := (by omega); have hgn2 : ¬ w.heap.size = g := (by omega); have hgn3 : ¬ g = w.heap.size + 1 := (by omega); have hgn4 : ¬ w.heap.size + 1 = g := (by omega); have HB2 := Lib.hid hB2; have K0 := Lib.hid k0; have K1 := Lib.hid k1; have HCU := Lib.hid hcur; have HAL := Lib.hid hall; clear hown hgrow k0 k1 hB2 hcur hall))
  refine bodyPost_ret (results_cell_tmp2 rfl _ _ (w.heap.size + 1) 68 #[.slice (some ⟨g, 0, none⟩) n cp, .int .i64 (cnt + 1)] (0, 0) _ ?hp ?hg Try.underlying68 rfl HZ.out) rfl ?_
  case hp => simp [Act.put]
  case hg =>
    rw [heap_setCell_same _ _ _ _ _ _ (heap_setCell_same _ _ _ _ _ _ (by rw [Cell.heap_setCell_other _ _ _ _ _ (by omega), Cell.heap_setCell_other _ _ _ _ _ (by omega)]; exact K1.out))]
    simp
  have hlen : (xs.set i v).length = n := by rw [List.length_set]; exact HN.out.symm
  refine ⟨some ⟨g, 0, none⟩, cp, .inr ⟨_, rfl, by show w.heap.size ≤ g; omega⟩, ?_, ?_, ?_⟩
  · rw [hlen]; rfl
  · refine Rd.row (t := 22) (fr := (0, 0)) (R := cur.setIfInBounds i (.int .u64 v)) ?_ (set_all HAL.out i v) (by simp [World.setCell]; omega)
    rw [Cell.heap_setCell_other _ _ _ _ _ (by omega), Cell.heap_setCell_other _ _ _ _ _ (by omega), setCell_eq_setRow _ _ _ _ _ _ _ (by rw [Cell.heap_setCell_other _ _ _ _ _ (by omega)]; exact HCU.out), heap_setRow_same _ _ _ _ _ _ (by rw [Cell.heap_setCell_other _ _ _ _ _ (by omega)]; exact HCU.out)]
  · exact Below.setCell (Below.setCell (Below.setCell (Below.setCell HB2.out (Nat.le_refl _) _) (by simp; omega) _) (by simp) _) (by simp) _

set_option maxRecDepth 100000 in
set_option maxHeartbeats 2000000 in
theorem Do_2e (A : Option Addr) (n c : Nat) (cnt : Int) (i : Nat) (old v was : Int) (xs : List Int) (hn : n = xs.length) (h : i < n) (hnn : n ≤ 1048576) (hc0 : 0 ≤ cnt) (hc1 : cnt < 4611686018427387904) (w : World) (hr : Rd .u64 w w.heap.size A xs) (hw : ∀ hi, xs[i]'hi = was) (heq : v = was) :
    Calls Try.prog 94 #[.agg #[.slice A n c, .int .i64 cnt], .int .i64 2, .int .i64 (i : Int), .int .u64 old, .int .u64 v] w (DoPost A w xs (cnt + 1) was false) := by
  have HH := Lib.hid (Has_yes A n c cnt i h (by omega))
  have hil : i < xs.length := by omega
  obtain ⟨a, rfl, hab, hca⟩ := hr i hil
  rw [hw hil] at hca
  have HN := Lib.hid hn
  have HR := Lib.hid hr
  have HW := Lib.hid (hw hil)
  have i0 : 0 ≤ (i : Int) := by omega
  have i1 : (i : Int) < (n : Int) := by omega
  have hcb : (a.add i).block < w.heap.size := by rw [show (a.add i).block = a.block by unfold Addr.add; split <;> rfl]; exact hab
  clear hr hn hw
  obtain ⟨iu, hi, hz0⟩ := Option.map_eq_some_iff.1 uint_info
  simp only [Prod.mk.injEq] at hz0
  obtain ⟨hz0, hz1, hz2⟩ := hz0
  have HI := Lib.hid (And.intro hi (And.intro hz0 (And.intro hz1 hz2)))
  clear hi hz0 hz1 hz2
  go_enter Try.func94, Try.ntmps94
  go_wp2_with fail
  refine (HH.out _).mono ?_
  rintro e w1 ⟨rfl, hM⟩
  have hs := hM.size
  simp at hs
  have h0 : w1.heap[w.heap.size]? = some (.cells #[.slice (some a) n c, .int .i64 cnt] 68 (0, 0)) := (hM.block _ (by simp; omega)).trans (heap_alloc2_old _ _ _)
  have h1 : w1.heap[w.heap.size + 1]? = some (.cells #[.slice none 0 0, .int .i64 0] 68 (0, 0)) := (hM.block _ (by simp)).trans (by rw [show w.heap.size + 1 = (w.alloc (.cells #[.slice (some a) n c, .int .i64 cnt] 68)).heap.size by simp]; exact heap_alloc_new _ _)
  have c0 : w1.cell? ⟨w.heap.size, 0, none⟩ = some (.slice (some a) n c) := cell_of_row _ _ _ _ _ _ h0
  have c1 : w1.cell? ⟨w.heap.size, 1, none⟩ = some (.int .i64 cnt) := cell_of_row _ _ _ _ _ _ h0
  have d0 : w1.cell? ⟨w.heap.size + 1, 0, none⟩ = some (.slice none 0 0) := cell_of_row _ _ _ _ _ _ h1
  have d1 : w1.cell? ⟨w.heap.size + 1, 1, none⟩ = some (.int .i64 0) := cell_of_row _ _ _ _ _ _ h1
  have y0 : w1.frozen? ⟨w.heap.size, 0, none⟩ = false := frozen_of_row _ _ _ _ _ h0
  have y1 : w1.frozen? ⟨w.heap.size, 1, none⟩ = false := frozen_of_row _ _ _ _ _ h0
  have z0 : w1.frozen? ⟨w.heap.size + 1, 0, none⟩ = false := frozen_of_row _ _ _ _ _ h1
  have z1 : w1.frozen? ⟨w.heap.size + 1, 1, none⟩ = false := frozen_of_row _ _ _ _ _ h1
  have hlt : w.heap.size + 1 < w1.heap.size := by omega
  have hlt0 : w.heap.size < w1.heap.size := by omega
  have hB : Made w w1 := Made.trans (((Made.refl w).alloc (Nat.le_refl _) _).alloc (by simp) _) hM
  have cx : w1.cell? (a.add i) = some (.int .u64 was) := (hB.cell hcb).trans hca
  have cx2 : ∀ u : Value, (w1.setCell ⟨w.heap.size, 1, none⟩ u).cell? (a.add i) = some (.int .u64 was) := fun u => by rw [World.cell?_setCell_other w1 _ _ u (fun e => by rw [← e] at hcb; exact Nat.lt_irrefl _ hcb)]; exact cx
  have HB := Lib.hid hB
  have H0 := Lib.hid h0
  have H1 := Lib.hid h1
  clear hM h0 h1 hB
  have HZ := Lib.hid (show (Try.prog.info? 68).map (·.size) = some 2 by kernel_rfl)
  go_wp2_with fail
  refine bodyPost_ret (results_cell_tmp2 rfl _ _ (w.heap.size + 1) 68 #[.slice (some a) n c, .int .i64 (cnt + 1)] (0, 0) _ ?hp ?hg Try.underlying68 rfl HZ.out) rfl ?_
  case hp => simp [Act.put]
  case hg =>
    rw [heap_setCell_same _ _ _ _ _ _ (heap_setCell_same _ _ _ _ _ _ (by rw [Cell.heap_setCell_other _ _ _ _ _ (by omega)]; exact H1.out))]
    simp
  have hm1 := Below.setCell (p := ⟨w.heap.size, 1, none⟩) HB.out (Nat.le_refl _) (.int .i64 (cnt + 1))
  have hm2 := Below.setCell (p := ⟨w.heap.size + 1, 1, none⟩) (Below.setCell (p := ⟨w.heap.size + 1, 0, none⟩) hm1 (by simp) (.slice (some a) n c)) (by simp) (.int .i64 (cnt + 1))
  have hx := HN.out
  subst hx
  exact ⟨some a, c, .inl rfl, rfl, rd_same HR.out hm2 hm2.size, hm2⟩

set_option maxRecDepth 100000 in
set_option maxHeartbeats 2000000 in
theorem Do_3 (A : Option Addr) (n c : Nat) (cnt : Int) (i : Nat) (old v was : Int) (xs : List Int) (hn : n = xs.length) (h : i < n) (hnn : n ≤ 1048576) (hc0 : 0 ≤ cnt) (hc1 : cnt < 4611686018427387904) (w : World) (hr : Rd .u64 w w.heap.size A xs) (hw : ∀ hi, xs[i]'hi = was) (ho : old = was) (hne : ¬ v = was) :
    Calls Try.prog 94 #[.agg #[.slice A n c, .int .i64 cnt], .int .i64 3, .int .i64 (i : Int), .int .u64 old, .int .u64 v] w (DoPost A w (xs.set i v) (cnt + 1) 0 true) := by
  have HH := Lib.hid (Has_yes A n c cnt i h (by omega))
  have hil : i < xs.length := by omega
  obtain ⟨a, rfl, hab, hca⟩ := hr i hil
  rw [hw hil] at hca
  have HN := Lib.hid hn
  have HR := Lib.hid hr
  have HW := Lib.hid (hw hil)
  have i0 : 0 ≤ (i : Int) := by omega
  have i1 : (i : Int) < (n : Int) := by omega
  have hcb : (a.add i).block < w.heap.size := by rw [show (a.add i).block = a.block by unfold Addr.add; split <;> rfl]; exact hab
  clear hr hn hw
  obtain ⟨iu, hi, hz0⟩ := Option.map_eq_some_iff.1 uint_info
  simp only [Prod.mk.injEq] at hz0
  obtain ⟨hz0, hz1, hz2⟩ := hz0
  have HI := Lib.hid (And.intro hi (And.intro hz0 (And.intro hz1 hz2)))
  clear hi hz0 hz1 hz2
  go_enter Try.func94, Try.ntmps94
  go_wp2_with fail
  refine (HH.out _).mono ?_
  rintro e w1 ⟨rfl, hM⟩
  have hs := hM.size
  simp at hs
  have h0 : w1.heap[w.heap.size]? = some (.cells #[.slice (some a) n c, .int .i64 cnt] 68 (0, 0)) := (hM.block _ (by simp; omega)).trans (heap_alloc2_old _ _ _)
  have h1 : w1.heap[w.heap.size + 1]? = some (.cells #[.slice none 0 0, .int .i64 0] 68 (0, 0)) := (hM.block _ (by simp)).trans (by rw [show w.heap.size + 1 = (w.alloc (.cells #[.slice (some a) n c, .int .i64 cnt] 68)).heap.size by simp]; exact heap_alloc_new _ _)
  have c0 : w1.cell? ⟨w.heap.size, 0, none⟩ = some (.slice (some a) n c) := cell_of_row _ _ _ _ _ _ h0
  have c1 : w1.cell? ⟨w.heap.size, 1, none⟩ = some (.int .i64 cnt) := cell_of_row _ _ _ _ _ _ h0
  have d0 : w1.cell? ⟨w.heap.size + 1, 0, none⟩ = some (.slice none 0 0) := cell_of_row _ _ _ _ _ _ h1
  have d1 : w1.cell? ⟨w.heap.size + 1, 1, none⟩ = some (.int .i64 0) := cell_of_row _ _ _ _ _ _ h1
  have y0 : w1.frozen? ⟨w.heap.size, 0, none⟩ = false := frozen_of_row _ _ _ _ _ h0
  have y1 : w1.frozen? ⟨w.heap.size, 1, none⟩ = false := frozen_of_row _ _ _ _ _ h0
  have z0 : w1.frozen? ⟨w.heap.size + 1, 0, none⟩ = false := frozen_of_row _ _ _ _ _ h1
  have z1 : w1.frozen? ⟨w.heap.size + 1, 1, none⟩ = false := frozen_of_row _ _ _ _ _ h1
  have hlt : w.heap.size + 1 < w1.heap.size := by omega
  have hlt0 : w.heap.size < w1.heap.size := by omega
  have hB : Made w w1 := Made.trans (((Made.refl w).alloc (Nat.le_refl _) _).alloc (by simp) _) hM
  have cx : w1.cell? (a.add i) = some (.int .u64 was) := (hB.cell hcb).trans hca
  have cx2 : ∀ u : Value, (w1.setCell ⟨w.heap.size, 1, none⟩ u).cell? (a.add i) = some (.int .u64 was) := fun u => by rw [World.cell?_setCell_other w1 _ _ u (fun e => by rw [← e] at hcb; exact Nat.lt_irrefl _ hcb)]; exact cx
  have HB := Lib.hid hB
  have H0 := Lib.hid h0
  have H1 := Lib.hid h1
  clear hM h0 h1 hB
  have HZ := Lib.hid (show (Try.prog.info? 68).map (·.size) = some 2 by kernel_rfl)
  go_wp2_with (at_builtin; (refine wpList_append_own _ rfl (.tmp 51) (.tmp 53) 54 rfl w1.heap.size 22 iu (.int .u64 0) 1 8 Try.underlying54 HI.out.1 HI.out.2.1 HI.out.2.2.1 HI.out.2.2.2 rfl (by decide) (.slice (some ⟨w1.heap.size, 0, none⟩) 0 0) 0 [] (by simp [Act.eval, Act.put]) (own_start w1 _ _) a n c (xs.map (Value.int .u64)) (by simp [Act.eval, Act.put]) (by rw [List.length_map, ← HN.out, Nat.mul_one]) (rd_news (HR.out.later (Below.alloc (Below.setCell (p := ⟨w.heap.size, 1, none⟩) HB.out (Nat.le_refl _) _) (le_set _ _ (by omega)) _))) (by simp [Value.oneCell']) (by unfold maxLen; omega) (by omega) (le_alloc_set _ _ _ _) ?_; intro v' w2 hown hgrow _; obtain ⟨g, cp, cur, rfl, hg, hcur, hall⟩ := own_form HN.out (by omega) hown; obtain ⟨k0, k1, hB2, hs2⟩ := after_app H0.out H1.out HB.out hgrow; have hgl := (Array.getElem?_eq_some_iff.1 hcur).1; have e0 : w2.cell? ⟨w.heap.size, 0, none⟩ = some (.slice (some a) n c) := cell_of_row _ _ _ _ _ _ k0; have e1 : w2.cell? ⟨w.heap.size, 1, none⟩ = some (.int .i64 (cnt + 1)) := cell_of_row _ _ _ _ _ _ k0; have e2 : w2.cell? ⟨w.heap.size + 1, 0, none⟩ = some (.slice none 0 0) := cell_of_row _ _ _ _ _ _ k1; have e3 : w2.cell? ⟨w.heap.size + 1, 1, none⟩ = some (.int .i64 0) := cell_of_row _ _ _ _ _ _ k1; have x0 : w2.frozen? ⟨w.heap.size, 0, none⟩ = false := frozen_of_row _ _ _ _ _ k0; have x2 : w2.frozen? ⟨w.heap.size + 1, 0, none⟩ = false := frozen_of_row _ _ _ _ _ k1; have x3 : w2.frozen? ⟨w.heap.size + 1, 1, none⟩ = false := frozen_of_row _ _ _ _ _ k1; have cg : w2.cell? ⟨g, i, none⟩ = some (.int .u64 was) := (cell_of_row _ _ _ _ _ _ hcur).trans ((hall i hil).trans (by rw [HW.out])); have zg : w2.frozen? ⟨g, i, none⟩ = false := frozen_of_row _ _ _ _ _ hcur; have hgn : ¬ g = w.heap.size := (by omega); have hgn2 : ¬ w.heap.size = g := (by omega); have hgn3 : ¬ g = w.heap.size + 1 := (by omega); have hgn4 : ¬ w.heap.size + 1 = g := (by omega); have HB2 := Lib.hid hB2; have K0 := Lib.hid k0; have K1 := Lib.hid k1; have HCU := Lib.hid hcur; have HAL := Lib.hid hall; clear hown hgrow k0 k1 hB2 hcur hall))
  refine bodyPost_ret (results_cell_tmp2 rfl _ _ (w.heap.size + 1) 68 #[.slice (some ⟨g, 0, none⟩) n cp, .int .i64 (cnt + 1)] (0, 0) _ ?hp ?hg Try.underlying68 rfl HZ.out) rfl ?_
  case hp => simp [Act.put]
  case hg =>
    rw [heap_setCell_same _ _ _ _ _ _ (heap_setCell_same _ _ _ _ _ _ (by rw [Cell.heap_setCell_other _ _ _ _ _ (by omega), Cell.heap_setCell_other _ _ _ _ _ (by omega)]; exact K1.out))]
    simp
  have hlen : (xs.set i v).length = n := by rw [List.length_set]; exact HN.out.symm
  refine ⟨some ⟨g, 0, none⟩, cp, .inr ⟨_, rfl, by show w.heap.size ≤ g; omega⟩, ?_, ?_, ?_⟩
  · rw [hlen]; rfl
  · refine Rd.row (t := 22) (fr := (0, 0)) (R := cur.setIfInBounds i (.int .u64 v)) ?_ (set_all HAL.out i v) (by simp [World.setCell]; omega)
    rw [Cell.heap_setCell_other _ _ _ _ _ (by omega), Cell.heap_setCell_other _ _ _ _ _ (by omega), setCell_eq_setRow _ _ _ _ _ _ _ (by rw [Cell.heap_setCell_other _ _ _ _ _ (by omega)]; exact HCU.out), heap_setRow_same _ _ _ _ _ _ (by rw [Cell.heap_setCell_other _ _ _ _ _ (by omega)]; exact HCU.out)]
  · exact Below.setCell (Below.setCell (Below.setCell (Below.setCell HB2.out (Nat.le_refl _) _) (by simp; omega) _) (by simp) _) (by simp) _

set_option maxRecDepth 100000 in
set_option maxHeartbeats 2000000 in
theorem Do_3e (A : Option Addr) (n c : Nat) (cnt : Int) (i : Nat) (old v was : Int) (xs : List Int) (hn : n = xs.length) (h : i < n) (hnn : n ≤ 1048576) (hc0 : 0 ≤ cnt) (hc1 : cnt < 4611686018427387904) (w : World) (hr : Rd .u64 w w.heap.size A xs) (hw : ∀ hi, xs[i]'hi = was) (ho : old = was) (heq : v = was) :
    Calls Try.prog 94 #[.agg #[.slice A n c, .int .i64 cnt], .int .i64 3, .int .i64 (i : Int), .int .u64 old, .int .u64 v] w (DoPost A w xs (cnt + 1) 0 true) := by
  have HH := Lib.hid (Has_yes A n c cnt i h (by omega))
  have hil : i < xs.length := by omega
  obtain ⟨a, rfl, hab, hca⟩ := hr i hil
  rw [hw hil] at hca
  have HN := Lib.hid hn
  have HR := Lib.hid hr
  have HW := Lib.hid (hw hil)
  have i0 : 0 ≤ (i : Int) := by omega
  have i1 : (i : Int) < (n : Int) := by omega
  have hcb : (a.add i).block < w.heap.size := by rw [show (a.add i).block = a.block by unfold Addr.add; split <;> rfl]; exact hab
  clear hr hn hw
  obtain ⟨iu, hi, hz0⟩ := Option.map_eq_some_iff.1 uint_info
  simp only [Prod.mk.injEq] at hz0
  obtain ⟨hz0, hz1, hz2⟩ := hz0
  have HI := Lib.hid (And.intro hi (And.intro hz0 (And.intro hz1 hz2)))
  clear hi hz0 hz1 hz2
  go_enter Try.func94, Try.ntmps94
  go_wp2_with fail
  refine (HH.out _).mono ?_
  rintro e w1 ⟨rfl, hM⟩
  have hs := hM.size
  simp at hs
  have h0 : w1.heap[w.heap.size]? = some (.cells #[.slice (some a) n c, .int .i64 cnt] 68 (0, 0)) := (hM.block _ (by simp; omega)).trans (heap_alloc2_old _ _ _)
  have h1 : w1.heap[w.heap.size + 1]? = some (.cells #[.slice none 0 0, .int .i64 0] 68 (0, 0)) := (hM.block _ (by simp)).trans (by rw [show w.heap.size + 1 = (w.alloc (.cells #[.slice (some a) n c, .int .i64 cnt] 68)).heap.size by simp]; exact heap_alloc_new _ _)
  have c0 : w1.cell? ⟨w.heap.size, 0, none⟩ = some (.slice (some a) n c) := cell_of_row _ _ _ _ _ _ h0
  have c1 : w1.cell? ⟨w.heap.size, 1, none⟩ = some (.int .i64 cnt) := cell_of_row _ _ _ _ _ _ h0
  have d0 : w1.cell? ⟨w.heap.size + 1, 0, none⟩ = some (.slice none 0 0) := cell_of_row _ _ _ _ _ _ h1
  have d1 : w1.cell? ⟨w.heap.size + 1, 1, none⟩ = some (.int .i64 0) := cell_of_row _ _ _ _ _ _ h1
  have y0 : w1.frozen? ⟨w.heap.size, 0, none⟩ = false := frozen_of_row _ _ _ _ _ h0
  have y1 : w1.frozen? ⟨w.heap.size, 1, none⟩ = false := frozen_of_row _ _ _ _ _ h0
  have z0 : w1.frozen? ⟨w.heap.size + 1, 0, none⟩ = false := frozen_of_row _ _ _ _ _ h1
  have z1 : w1.frozen? ⟨w.heap.size + 1, 1, none⟩ = false := frozen_of_row _ _ _ _ _ h1
  have hlt : w.heap.size + 1 < w1.heap.size := by omega
  have hlt0 : w.heap.size < w1.heap.size := by omega
  have hB : Made w w1 := Made.trans (((Made.refl w).alloc (Nat.le_refl _) _).alloc (by simp) _) hM
  have cx : w1.cell? (a.add i) = some (.int .u64 was) := (hB.cell hcb).trans hca
  have cx2 : ∀ u : Value, (w1.setCell ⟨w.heap.size, 1, none⟩ u).cell? (a.add i) = some (.int .u64 was) := fun u => by rw [World.cell?_setCell_other w1 _ _ u (fun e => by rw [← e] at hcb; exact Nat.lt_irrefl _ hcb)]; exact cx
  have HB := Lib.hid hB
  have H0 := Lib.hid h0
  have H1 := Lib.hid h1
  clear hM h0 h1 hB
  have HZ := Lib.hid (show (Try.prog.info? 68).map (·.size) = some 2 by kernel_rfl)
  go_wp2_with fail
  refine bodyPost_ret (results_cell_tmp2 rfl _ _ (w.heap.size + 1) 68 #[.slice (some a) n c, .int .i64 (cnt + 1)] (0, 0) _ ?hp ?hg Try.underlying68 rfl HZ.out) rfl ?_
  case hp => simp [Act.put]
  case hg =>
    rw [heap_setCell_same _ _ _ _ _ _ (heap_setCell_same _ _ _ _ _ _ (by rw [Cell.heap_setCell_other _ _ _ _ _ (by omega)]; exact H1.out))]
    simp
  have hm1 := Below.setCell (p := ⟨w.heap.size, 1, none⟩) HB.out (Nat.le_refl _) (.int .i64 (cnt + 1))
  have hm2 := Below.setCell (p := ⟨w.heap.size + 1, 1, none⟩) (Below.setCell (p := ⟨w.heap.size + 1, 0, none⟩) hm1 (by simp) (.slice (some a) n c)) (by simp) (.int .i64 (cnt + 1))
  have hx := HN.out
  subst hx
  exact ⟨some a, c, .inl rfl, rfl, rd_same HR.out hm2 hm2.size, hm2⟩

set_option maxRecDepth 100000 in
set_option maxHeartbeats 2000000 in
theorem Do_3m (A : Option Addr) (n c : Nat) (cnt : Int) (i : Nat) (old v was : Int) (xs : List Int) (hn : n = xs.length) (h : i < n) (hnn : n ≤ 1048576) (hc0 : 0 ≤ cnt) (hc1 : cnt < 4611686018427387904) (w : World) (hr : Rd .u64 w w.heap.size A xs) (hw : ∀ hi, xs[i]'hi = was) (ho : (was == old) = false) :
    Calls Try.prog 94 #[.agg #[.slice A n c, .int .i64 cnt], .int .i64 3, .int .i64 (i : Int), .int .u64 old, .int .u64 v] w (DoPost A w xs (cnt + 1) 0 false) := by
  have HH := Lib.hid (Has_yes A n c cnt i h (by omega))
  have hil : i < xs.length := by omega
  obtain ⟨a, rfl, hab, hca⟩ := hr i hil
  rw [hw hil] at hca
  have HN := Lib.hid hn
  have HR := Lib.hid hr
  have HW := Lib.hid (hw hil)
  have i0 : 0 ≤ (i : Int) := by omega
  have i1 : (i : Int) < (n : Int) := by omega
  have hcb : (a.add i).block < w.heap.size := by rw [show (a.add i).block = a.block by unfold Addr.add; split <;> rfl]; exact hab
  clear hr hn hw
  obtain ⟨iu, hi, hz0⟩ := Option.map_eq_some_iff.1 uint_info
  simp only [Prod.mk.injEq] at hz0
  obtain ⟨hz0, hz1, hz2⟩ := hz0
  have HI := Lib.hid (And.intro hi (And.intro hz0 (And.intro hz1 hz2)))
  clear hi hz0 hz1 hz2
  go_enter Try.func94, Try.ntmps94
  go_wp2_with fail
  refine (HH.out _).mono ?_
  rintro e w1 ⟨rfl, hM⟩
  have hs := hM.size
  simp at hs
  have h0 : w1.heap[w.heap.size]? = some (.cells #[.slice (some a) n c, .int .i64 cnt] 68 (0, 0)) := (hM.block _ (by simp; omega)).trans (heap_alloc2_old _ _ _)
  have h1 : w1.heap[w.heap.size + 1]? = some (.cells #[.slice none 0 0, .int .i64 0] 68 (0, 0)) := (hM.block _ (by simp)).trans (by rw [show w.heap.size + 1 = (w.alloc (.cells #[.slice (some a) n c, .int .i64 cnt] 68)).heap.size by simp]; exact heap_alloc_new _ _)
  have c0 : w1.cell? ⟨w.heap.size, 0, none⟩ = some (.slice (some a) n c) := cell_of_row _ _ _ _ _ _ h0
  have c1 : w1.cell? ⟨w.heap.size, 1, none⟩ = some (.int .i64 cnt) := cell_of_row _ _ _ _ _ _ h0
  have d0 : w1.cell? ⟨w.heap.size + 1, 0, none⟩ = some (.slice none 0 0) := cell_of_row _ _ _ _ _ _ h1
  have d1 : w1.cell? ⟨w.heap.size + 1, 1, none⟩ = some (.int .i64 0) := cell_of_row _ _ _ _ _ _ h1
  have y0 : w1.frozen? ⟨w.heap.size, 0, none⟩ = false := frozen_of_row _ _ _ _ _ h0
  have y1 : w1.frozen? ⟨w.heap.size, 1, none⟩ = false := frozen_of_row _ _ _ _ _ h0
  have z0 : w1.frozen? ⟨w.heap.size + 1, 0, none⟩ = false := frozen_of_row _ _ _ _ _ h1
  have z1 : w1.frozen? ⟨w.heap.size + 1, 1, none⟩ = false := frozen_of_row _ _ _ _ _ h1
  have hlt : w.heap.size + 1 < w1.heap.size := by omega
  have hlt0 : w.heap.size < w1.heap.size := by omega
  have hB : Made w w1 := Made.trans (((Made.refl w).alloc (Nat.le_refl _) _).alloc (by simp) _) hM
  have cx : w1.cell? (a.add i) = some (.int .u64 was) := (hB.cell hcb).trans hca
  have cx2 : ∀ u : Value, (w1.setCell ⟨w.heap.size, 1, none⟩ u).cell? (a.add i) = some (.int .u64 was) := fun u => by rw [World.cell?_setCell_other w1 _ _ u (fun e => by rw [← e] at hcb; exact Nat.lt_irrefl _ hcb)]; exact cx
  have HB := Lib.hid hB
  have H0 := Lib.hid h0
  have H1 := Lib.hid h1
  clear hM h0 h1 hB
  have HZ := Lib.hid (show (Try.prog.info? 68).map (·.size) = some 2 by kernel_rfl)
  go_wp2_with fail
  refine bodyPost_ret (results_cell_tmp2 rfl _ _ (w.heap.size + 1) 68 #[.slice (some a) n c, .int .i64 (cnt + 1)] (0, 0) _ ?hp ?hg Try.underlying68 rfl HZ.out) rfl ?_
  case hp => simp [Act.put]
  case hg =>
    rw [heap_setCell_same _ _ _ _ _ _ (heap_setCell_same _ _ _ _ _ _ (by rw [Cell.heap_setCell_other _ _ _ _ _ (by omega)]; exact H1.out))]
    simp
  have hm1 := Below.setCell (p := ⟨w.heap.size, 1, none⟩) HB.out (Nat.le_refl _) (.int .i64 (cnt + 1))
  have hm2 := Below.setCell (p := ⟨w.heap.size + 1, 1, none⟩) (Below.setCell (p := ⟨w.heap.size + 1, 0, none⟩) hm1 (by simp) (.slice (some a) n c)) (by simp) (.int .i64 (cnt + 1))
  have hx := HN.out
  subst hx
  exact ⟨some a, c, .inl rfl, rfl, rd_same HR.out hm2 hm2.size, hm2⟩

set_option maxRecDepth 100000 in
set_option maxHeartbeats 2000000 in
theorem Do_4 (A : Option Addr) (n c : Nat) (cnt : Int) (i : Nat) (old v was : Int) (xs : List Int) (hn : n = xs.length) (h : i < n) (hnn : n ≤ 1048576) (hc0 : 0 ≤ cnt) (hc1 : cnt < 4611686018427387904) (w : World) (hr : Rd .u64 w w.heap.size A xs) (hw : ∀ hi, xs[i]'hi = was) (hne : ¬ IntKind.u64.wrap (was + v) = was) :
    Calls Try.prog 94 #[.agg #[.slice A n c, .int .i64 cnt], .int .i64 4, .int .i64 (i : Int), .int .u64 old, .int .u64 v] w (DoPost A w (xs.set i (IntKind.u64.wrap (was + v))) (cnt + 1) was false) := by
  have HH := Lib.hid (Has_yes A n c cnt i h (by omega))
  have hil : i < xs.length := by omega
  obtain ⟨a, rfl, hab, hca⟩ := hr i hil
  rw [hw hil] at hca
  have HN := Lib.hid hn
  have HR := Lib.hid hr
  have HW := Lib.hid (hw hil)
  have i0 : 0 ≤ (i : Int) := by omega
  have i1 : (i : Int) < (n : Int) := by omega
  have hcb : (a.add i).block < w.heap.size := by rw [show (a.add i).block = a.block by unfold Addr.add; split <;> rfl]; exact hab
  clear hr hn hw
  obtain ⟨iu, hi, hz0⟩ := Option.map_eq_some_iff.1 uint_info
  simp only [Prod.mk.injEq] at hz0
  obtain ⟨hz0, hz1, hz2⟩ := hz0
  have HI := Lib.hid (And.intro hi (And.intro hz0 (And.intro hz1 hz2)))
  clear hi hz0 hz1 hz2
  go_enter Try.func94, Try.ntmps94
  go_wp2_with fail
  refine (HH.out _).mono ?_
  rintro e w1 ⟨rfl, hM⟩
  have hs := hM.size
  simp at hs
  have h0 : w1.heap[w.heap.size]? = some (.cells #[.slice (some a) n c, .int .i64 cnt] 68 (0, 0)) := (hM.block _ (by simp; omega)).trans (heap_alloc2_old _ _ _)
  have h1 : w1.heap[w.heap.size + 1]? = some (.cells #[.slice none 0 0, .int .i64 0] 68 (0, 0)) := (hM.block _ (by simp)).trans (by rw [show w.heap.size + 1 = (w.alloc (.cells #[.slice (some a) n c, .int .i64 cnt] 68)).heap.size by simp]; exact heap_alloc_new _ _)
  have c0 : w1.cell? ⟨w.heap.size, 0, none⟩ = some (.slice (some a) n c) := cell_of_row _ _ _ _ _ _ h0
  have c1 : w1.cell? ⟨w.heap.size, 1, none⟩ = some (.int .i64 cnt) := cell_of_row _ _ _ _ _ _ h0
  have d0 : w1.cell? ⟨w.heap.size + 1, 0, none⟩ = some (.slice none 0 0) := cell_of_row _ _ _ _ _ _ h1
  have d1 : w1.cell? ⟨w.heap.size + 1, 1, none⟩ = some (.int .i64 0) := cell_of_row _ _ _ _ _ _ h1
  have y0 : w1.frozen? ⟨w.heap.size, 0, none⟩ = false := frozen_of_row _ _ _ _ _ h0
  have y1 : w1.frozen? ⟨w.heap.size, 1, none⟩ = false := frozen_of_row _ _ _ _ _ h0
  have z0 : w1.frozen? ⟨w.heap.size + 1, 0, none⟩ = false := frozen_of_row _ _ _ _ _ h1
  have z1 : w1.frozen? ⟨w.heap.size + 1, 1, none⟩ = false := frozen_of_row _ _ _ _ _ h1
  have hlt : w.heap.size + 1 < w1.heap.size := by omega
  have hlt0 : w.heap.size < w1.heap.size := by omega
  have hB : Made w w1 := Made.trans (((Made.refl w).alloc (Nat.le_refl _) _).alloc (by simp) _) hM
  have cx : w1.cell? (a.add i) = some (.int .u64 was) := (hB.cell hcb).trans hca
  have cx2 : ∀ u : Value, (w1.setCell ⟨w.heap.size, 1, none⟩ u).cell? (a.add i) = some (.int .u64 was) := fun u => by rw [World.cell?_setCell_other w1 _ _ u (fun e => by rw [← e] at hcb; exact Nat.lt_irrefl _ hcb)]; exact cx
  have HB := Lib.hid hB
  have H0 := Lib.hid h0
  have H1 := Lib.hid h1
  clear hM h0 h1 hB
  have HZ := Lib.hid (show (Try.prog.info? 68).map (·.size) = some 2 by kernel_rfl)
  go_wp2_with (at_builtin; (refine wpList_append_own _ rfl (.tmp 51) (.tmp 53) 54 rfl w1.heap.size 22 iu (.int .u64 0) 1 8 Try.underlying54 HI.out.1 HI.out.2.1 HI.out.2.2.1 HI.out.2.2.2 rfl (by decide) (.slice (some ⟨w1.heap.size, 0, none⟩) 0 0) 0 [] (by simp [Act.eval, Act.put]) (own_start w1 _ _) a n c (xs.map (Value.int .u64)) (by simp [Act.eval, Act.put]) (by rw [List.length_map, ← HN.out, Nat.mul_one]) (rd_news (HR.out.later (Below.alloc (Below.setCell (p := ⟨w.heap.size, 1, none⟩) HB.out (Nat.le_refl _) _) (le_set _ _ (by omega)) _))) (by simp [Value.oneCell']) (by unfold maxLen; omega) (by omega) (le_alloc_set _ _ _ _) ?_; intro v' w2 hown hgrow _; obtain ⟨g, cp, cur, rfl, hg, hcur, hall⟩ := own_form HN.out (by omega) hown; obtain ⟨k0, k1, hB2, hs2⟩ := after_app H0.out H1.out HB.out hgrow; have hgl := (Array.getElem?_eq_some_iff.1 hcur).1; have e0 : w2.cell? ⟨w.heap.size, 0, none⟩ = some (.slice (some a) n c) := cell_of_row _ _ _ _ _ _ k0; have e1 : w2.cell? ⟨w.heap.size, 1, none⟩ = some (.int .i64 (cnt + 1)) := cell_of_row _ _ _ _ _ _ k0; have e2 : w2.cell? ⟨w.heap.size + 1, 0, none⟩ = some (.slice none 0 0) := cell_of_row _ _ _ _ _ _ k1; have e3 : w2.cell? ⟨w.heap.size + 1, 1, none⟩ = some (.int .i64 0) := cell_of_row _ _ _ _ _ _ k1; have x0 : w2.frozen? ⟨w.heap.size, 0, none⟩ = false := frozen_of_row _ _ _ _ _ k0; have x2 : w2.frozen? ⟨w.heap.size + 1, 0, none⟩ = false := frozen_of_row _ _ _ _ _ k1; have x3 : w2.frozen? ⟨w.heap.size + 1, 1, none⟩ = false := frozen_of_row _ _ _ _ _ k1; have cg : w2.cell? ⟨g, i, none⟩ = some (.int .u64 was) := (cell_of_row _ _ _ _ _ _ hcur).trans ((hall i hil).trans (by rw [HW.out])); have zg : w2.frozen? ⟨g, i, none⟩ = false := frozen_of_row _ _ _ _ _ hcur; have hgn : ¬ g = w.heap.size := (by omega); have hgn2 : ¬ w.heap.size = g := (by omega); have hgn3 : ¬ g = w.heap.size + 1 := (by omega); have hgn4 : ¬ w.heap.size + 1 = g := (by omega); have HB2 := Lib.hid hB2; have K0 := Lib.hid k0; have K1 := Lib.hid k1; have HCU := Lib.hid hcur; have HAL := Lib.hid hall; clear hown hgrow k0 k1 hB2 hcur hall))
  refine bodyPost_ret (results_cell_tmp2 rfl _ _ (w.heap.size + 1) 68 #[.slice (some ⟨g, 0, none⟩) n cp, .int .i64 (cnt + 1)] (0, 0) _ ?hp ?hg Try.underlying68 rfl HZ.out) rfl ?_
  case hp => simp [Act.put]
  case hg =>
    rw [heap_setCell_same _ _ _ _ _ _ (heap_setCell_same _ _ _ _ _ _ (by rw [Cell.heap_setCell_other _ _ _ _ _ (by omega), Cell.heap_setCell_other _ _ _ _ _ (by omega)]; exact K1.out))]
    simp
  have hlen : (xs.set i (IntKind.u64.wrap (was + v))).length = n := by rw [List.length_set]; exact HN.out.symm
  refine ⟨some ⟨g, 0, none⟩, cp, .inr ⟨_, rfl, by show w.heap.size ≤ g; omega⟩, ?_, ?_, ?_⟩
  · rw [hlen]; rfl
  · refine Rd.row (t := 22) (fr := (0, 0)) (R := cur.setIfInBounds i (.int .u64 (IntKind.u64.wrap (was + v)))) ?_ (set_all HAL.out i (IntKind.u64.wrap (was + v))) (by simp [World.setCell]; omega)
    rw [Cell.heap_setCell_other _ _ _ _ _ (by omega), Cell.heap_setCell_other _ _ _ _ _ (by omega), setCell_eq_setRow _ _ _ _ _ _ _ (by rw [Cell.heap_setCell_other _ _ _ _ _ (by omega)]; exact HCU.out), heap_setRow_same _ _ _ _ _ _ (by rw [Cell.heap_setCell_other _ _ _ _ _ (by omega)]; exact HCU.out)]
  · exact Below.setCell (Below.setCell (Below.setCell (Below.setCell HB2.out (Nat.le_refl _) _) (by simp; omega) _) (by simp) _) (by simp) _

set_option maxRecDepth 100000 in
set_option maxHeartbeats 2000000 in
theorem Do_4e (A : Option Addr) (n c : Nat) (cnt : Int) (i : Nat) (old v was : Int) (xs : List Int) (hn : n = xs.length) (h : i < n) (hnn : n ≤ 1048576) (hc0 : 0 ≤ cnt) (hc1 : cnt < 4611686018427387904) (w : World) (hr : Rd .u64 w w.heap.size A xs) (hw : ∀ hi, xs[i]'hi = was) (heq : IntKind.u64.wrap (was + v) = was) :
    Calls Try.prog 94 #[.agg #[.slice A n c, .int .i64 cnt], .int .i64 4, .int .i64 (i : Int), .int .u64 old, .int .u64 v] w (DoPost A w xs (cnt + 1) was false) := by
  have HH := Lib.hid (Has_yes A n c cnt i h (by omega))
  have hil : i < xs.length := by omega
  obtain ⟨a, rfl, hab, hca⟩ := hr i hil
  rw [hw hil] at hca
  have HN := Lib.hid hn
  have HR := Lib.hid hr
  have HW := Lib.hid (hw hil)
  have i0 : 0 ≤ (i : Int) := by omega
  have i1 : (i : Int) < (n : Int) := by omega
  have hcb : (a.add i).block < w.heap.size := by rw [show (a.add i).block = a.block by unfold Addr.add; split <;> rfl]; exact hab
  clear hr hn hw
  obtain ⟨iu, hi, hz0⟩ := Option.map_eq_some_iff.1 uint_info
  simp only [Prod.mk.injEq] at hz0
  obtain ⟨hz0, hz1, hz2⟩ := hz0
  have HI := Lib.hid (And.intro hi (And.intro hz0 (And.intro hz1 hz2)))
  clear hi hz0 hz1 hz2
  go_enter Try.func94, Try.ntmps94
  go_wp2_with fail
  refine (HH.out _).mono ?_
  rintro e w1 ⟨rfl, hM⟩
  have hs := hM.size
  simp at hs
  have h0 : w1.heap[w.heap.size]? = some (.cells #[.slice (some a) n c, .int .i64 cnt] 68 (0, 0)) := (hM.block _ (by simp; omega)).trans (heap_alloc2_old _ _ _)
  have h1 : w1.heap[w.heap.size + 1]? = some (.cells #[.slice none 0 0, .int .i64 0] 68 (0, 0)) := (hM.block _ (by simp)).trans (by rw [show w.heap.size + 1 = (w.alloc (.cells #[.slice (some a) n c, .int .i64 cnt] 68)).heap.size by simp]; exact heap_alloc_new _ _)
  have c0 : w1.cell? ⟨w.heap.size, 0, none⟩ = some (.slice (some a) n c) := cell_of_row _ _ _ _ _ _ h0
  have c1 : w1.cell? ⟨w.heap.size, 1, none⟩ = some (.int .i64 cnt) := cell_of_row _ _ _ _ _ _ h0
  have d0 : w1.cell? ⟨w.heap.size + 1, 0, none⟩ = some (.slice none 0 0) := cell_of_row _ _ _ _ _ _ h1
  have d1 : w1.cell? ⟨w.heap.size + 1, 1, none⟩ = some (.int .i64 0) := cell_of_row _ _ _ _ _ _ h1
  have y0 : w1.frozen? ⟨w.heap.size, 0, none⟩ = false := frozen_of_row _ _ _ _ _ h0
  have y1 : w1.frozen? ⟨w.heap.size, 1, none⟩ = false := frozen_of_row _ _ _ _ _ h0
  have z0 : w1.frozen? ⟨w.heap.size + 1, 0, none⟩ = false := frozen_of_row _ _ _ _ _ h1
  have z1 : w1.frozen? ⟨w.heap.size + 1, 1, none⟩ = false := frozen_of_row _ _ _ _ _ h1
  have hlt : w.heap.size + 1 < w1.heap.size := by omega
  have hlt0 : w.heap.size < w1.heap.size := by omega
  have hB : Made w w1 := Made.trans (((Made.refl w).alloc (Nat.le_refl _) _).alloc (by simp) _) hM
  have cx : w1.cell? (a.add i) = some (.int .u64 was) := (hB.cell hcb).trans hca
  have cx2 : ∀ u : Value, (w1.setCell ⟨w.heap.size, 1, none⟩ u).cell? (a.add i) = some (.int .u64 was) := fun u => by rw [World.cell?_setCell_other w1 _ _ u (fun e => by rw [← e] at hcb; exact Nat.lt_irrefl _ hcb)]; exact cx
  have HB := Lib.hid hB
  have H0 := Lib.hid h0
  have H1 := Lib.hid h1
  clear hM h0 h1 hB
  have HZ := Lib.hid (show (Try.prog.info? 68).map (·.size) = some 2 by kernel_rfl)
  go_wp2_with fail
  refine bodyPost_ret (results_cell_tmp2 rfl _ _ (w.heap.size + 1) 68 #[.slice (some a) n c, .int .i64 (cnt + 1)] (0, 0) _ ?hp ?hg Try.underlying68 rfl HZ.out) rfl ?_
  case hp => simp [Act.put]
  case hg =>
    rw [heap_setCell_same _ _ _ _ _ _ (heap_setCell_same _ _ _ _ _ _ (by rw [Cell.heap_setCell_other _ _ _ _ _ (by omega)]; exact H1.out))]
    simp
  have hm1 := Below.setCell (p := ⟨w.heap.size, 1, none⟩) HB.out (Nat.le_refl _) (.int .i64 (cnt + 1))
  have hm2 := Below.setCell (p := ⟨w.heap.size + 1, 1, none⟩) (Below.setCell (p := ⟨w.heap.size + 1, 0, none⟩) hm1 (by simp) (.slice (some a) n c)) (by simp) (.int .i64 (cnt + 1))
  have hx := HN.out
  subst hx
  exact ⟨some a, c, .inl rfl, rfl, rd_same HR.out hm2 hm2.size, hm2⟩

theorem set_was {xs : List Int} {i : Nat} {was : Int} (h : i < xs.length) (hw : xs[i] = was) : xs.set i was = xs := by
  rw [← hw]; simp
theorem Do_some (A : Option Addr) (n c : Nat) (cnt kind : Int) (i : Nat) (old v was : Int) (xs : List Int) (hn : n = xs.length) (h : i < n) (hnn : n ≤ 1048576) (hc0 : 0 ≤ cnt) (hc1 : cnt < 4611686018427387904) (w : World) (hr : Rd .u64 w w.heap.size A xs) (hw : ∀ hi, xs[i]'hi = was) (hk : 0 ≤ kind ∧ kind ≤ 4) :
    Calls Try.prog 94 #[.agg #[.slice A n c, .int .i64 cnt], .int .i64 kind, .int .i64 (i : Int), .int .u64 old, .int .u64 v] w (DoPost A w (xs.set i (now kind old v was)) (cnt + 1) (val kind was) (isOk kind old was)) := by
  have hs := set_was (by omega) (hw (by omega))
  have hk' : kind = 0 ∨ kind = 1 ∨ kind = 2 ∨ kind = 3 ∨ kind = 4 := by omega
  rcases hk' with rfl | rfl | rfl | rfl | rfl
  · simp only [now, val, isOk]
    rw [if_neg (by decide), if_neg (by decide), if_neg (by decide), if_neg (by decide), if_neg (by decide), if_neg (by decide), hs]
    exact Do_0 A n c cnt i old v was xs hn h hnn hc0 hc1 w hr hw
  · simp only [now, val, isOk]
    rw [if_pos (by decide), if_pos (by decide), if_pos (by decide)]
    by_cases e : v = was
    · rw [e, hs, ← e]; exact Do_1e A n c cnt i old v was xs hn h hnn hc0 hc1 w hr hw e
    · exact Do_1 A n c cnt i old v was xs hn h hnn hc0 hc1 w hr hw e
  · simp only [now, val, isOk]
    rw [if_pos (by decide), if_neg (by decide), if_neg (by decide), if_neg (by decide)]
    by_cases e : v = was
    · rw [e, hs, ← e]; have := Do_2e A n c cnt i old v was xs hn h hnn hc0 hc1 w hr hw e; rw [← e] at this; exact this
    · exact Do_2 A n c cnt i old v was xs hn h hnn hc0 hc1 w hr hw e
  · rw [show now 3 old v was = (if was = old then v else was) by simp [now], show val 3 was = 0 by simp [val], show isOk 3 old was = decide (was = old) by simp [isOk]]
    by_cases o : was = old
    · rw [if_pos o, decide_eq_true o]
      by_cases e : v = was
      · rw [e, hs, ← e]; exact Do_3e A n c cnt i old v was xs hn h hnn hc0 hc1 w hr hw o.symm e
      · exact Do_3 A n c cnt i old v was xs hn h hnn hc0 hc1 w hr hw o.symm e
    · rw [if_neg o, decide_eq_false o, hs]
      exact Do_3m A n c cnt i old v was xs hn h hnn hc0 hc1 w hr hw (by simpa using o)
  · simp only [now, val, isOk]
    rw [if_neg (by decide), if_neg (by decide), if_pos (by decide), if_neg (by decide), if_neg (by decide), if_neg (by decide)]
    by_cases e : IntKind.u64.wrap (was + v) = was
    · rw [e, hs]; exact Do_4e A n c cnt i old v was xs hn h hnn hc0 hc1 w hr hw e
    · exact Do_4 A n c cnt i old v was xs hn h hnn hc0 hc1 w hr hw e
end Go.Proofs.Ythllplocbciepaa.Ref2
