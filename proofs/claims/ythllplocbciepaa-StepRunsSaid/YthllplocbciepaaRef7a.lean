/- Package knellref07, walked: Ended, Step. -/
import Derived.Test.YthllplocbciepaaRef2
import Derived.Test.YthllplocbciepaaOpenA
import Derived.Deep.RegionHeld3
import Derived.Deep.DeepCutAuto
namespace Go.Proofs.Ythllplocbciepaa.Ref7
open Go.RowKit Go.Proofs.Ythllplocbciepaa Go.Proofs.Ythllplocbciepaa.Cell Go.Proofs.Ythllplocbciepaa.Ref2
set_option linter.unusedVariables false
set_option linter.unusedSimpArgs false

theorem results_two {P : Program} {fn : Func} {p q : Tmp} {t1 t2 : TypeId} (h : fn.results = #[.cell p t1, .cell q t2]) (tmps : Array Value) (w : World) (g g' : Nat) (tt tt' : TypeId) (cs cs' : Array Value) (fr fr' : Nat × Nat) (d d' : TypeDesc)
    (hp : tmps.getD p undef = .pointer (some ⟨g, 0, none⟩)) (hg : w.heap[g]? = some (.cells cs tt fr))
    (hu : P.underlying t1 = some d) (hd : (match d with | .struct _ | .array _ _ => true | _ => false) = true) (hi : (P.info? t1).map (·.size) = some cs.size)
    (hq : tmps.getD q undef = .pointer (some ⟨g', 0, none⟩)) (hg' : w.heap[g']? = some (.cells cs' tt' fr'))
    (hu' : P.underlying t2 = some d') (hd' : (match d' with | .struct _ | .array _ _ => true | _ => false) = true) (hi' : (P.info? t2).map (·.size) = some cs'.size) :
    (results fn tmps).run P w = .ok (.tuple #[.agg cs, .agg cs']) w := by
  have hp' : tmps[p]?.getD undef = .pointer (some ⟨g, 0, none⟩) := by simpa using hp
  have hq' : tmps[q]?.getD undef = .pointer (some ⟨g', 0, none⟩) := by simpa using hq
  simp [results, h, hp', hq', asAddr, run_loadVar_row w g tt t1 cs fr d hg hu hd hi, run_loadVar_row w g' tt' t2 cs' fr' d' hg' hu' hd' hi']

/-- A task of acts, as a value: acts, how many are done, what they told. -/
abbrev tv (T : Option Addr) (n c : Nat) (d : Nat) (s : Int) : Value := .agg #[.slice T n c, .int .i64 (d : Int), .int .u64 s]
set_option maxHeartbeats 400000 in
theorem Ended_r (T : Option Addr) (n c d : Nat) (s : Int) (w : World) (hn : (n : Int) ≤ 9223372036854775807) (hd : (d : Int) ≤ 9223372036854775807) :
    Calls Try.prog 48 #[tv T n c d s] w fun e w' => e = .returned (.bool (decide (n ≤ d))) ∧ Made w w' := by
  by_cases h : n ≤ d
  · have hh : (n : Int) ≤ (d : Int) := by omega
    rw [decide_eq_true h]
    go_enter Try.func48, Try.ntmps48
    go_wp2_with fail
    go_ret
    exact ⟨rfl, (Made.refl w).alloc (Nat.le_refl _) _⟩
  · have hh : ¬ (n : Int) ≤ (d : Int) := by omega
    rw [decide_eq_false h]
    go_enter Try.func48, Try.ntmps48
    go_wp2_with fail
    go_ret
    exact ⟨rfl, (Made.refl w).alloc (Nat.le_refl _) _⟩
/-- What Step leaves. -/
def StepPost (A0 : Option Addr) (w : World) (xs : List Int) (cnt : Int) (T : Option Addr) (n c d : Nat) (s : Int) (e : Ending) (w' : World) : Prop :=
  ∃ (A : Option Addr) (c' : Nat), (A = A0 ∨ ∃ p : Addr, A = some p ∧ w.heap.size ≤ p.block) ∧ e = .returned (.tuple #[.agg #[.slice A xs.length c', .int .i64 cnt], tv T n c d s]) ∧ Rd .u64 w' w'.heap.size A xs ∧ Made w w'
theorem four_boxes {w w1 : World} {o1 o2 o3 o4 : Array Value} {t1 t2 t3 t4 : TypeId} (hM : Made ((((w.alloc (.cells o1 t1)).alloc (.cells o2 t2)).alloc (.cells o3 t3)).alloc (.cells o4 t4)) w1) :
    w1.heap[w.heap.size]? = some (.cells o1 t1 (0, 0)) ∧ w1.heap[w.heap.size + 1]? = some (.cells o2 t2 (0, 0)) ∧ w1.heap[w.heap.size + 1 + 1]? = some (.cells o3 t3 (0, 0)) ∧ w1.heap[w.heap.size + 1 + 1 + 1]? = some (.cells o4 t4 (0, 0)) ∧ Made w w1 := by
  have e1 : ∀ k, k < w.heap.size + 1 + 1 + 1 + 1 → w1.heap[k]? = ((((w.alloc (.cells o1 t1)).alloc (.cells o2 t2)).alloc (.cells o3 t3)).alloc (.cells o4 t4)).heap[k]? := fun k hk => hM.block k (by simp only [World.size_alloc]; omega)
  refine ⟨?_, ?_, ?_, ?_, Below.trans (((((Made.refl w).alloc (Nat.le_refl _) _).alloc (by simp only [World.size_alloc]; omega) _).alloc (by simp only [World.size_alloc]; omega) _).alloc (by simp only [World.size_alloc]; omega) _) (Below.mono hM (by simp only [World.size_alloc]; omega))⟩
  · rw [e1 _ (by omega), heap_alloc_old _ _ (by simp only [World.size_alloc]; omega), heap_alloc_old _ _ (by simp only [World.size_alloc]; omega), heap_alloc_old _ _ (by simp only [World.size_alloc]; omega)]
    exact heap_alloc_new _ _
  · rw [e1 _ (by omega), heap_alloc_old _ _ (by simp only [World.size_alloc]; omega), heap_alloc_old _ _ (by simp only [World.size_alloc]; omega)]
    have := heap_alloc_new (w.alloc (.cells o1 t1)) (.cells o2 t2)
    rw [World.size_alloc] at this
    exact this
  · rw [e1 _ (by omega), heap_alloc_old _ _ (by simp only [World.size_alloc]; omega)]
    have := heap_alloc_new ((w.alloc (.cells o1 t1)).alloc (.cells o2 t2)) (.cells o3 t3)
    simp only [World.size_alloc] at this
    exact this
  · rw [e1 _ (by omega)]
    have := heap_alloc_new (((w.alloc (.cells o1 t1)).alloc (.cells o2 t2)).alloc (.cells o3 t3)) (.cells o4 t4)
    simp only [World.size_alloc] at this
    exact this
theorem ret_rows {V : World} {p2 p3 : Nat} {x0 x1 y0 y1 y2 : Value} {t2 t3 : TypeId} (h2 : V.heap[p2]? = some (.cells #[x0, x1] t2 (0, 0))) (h3 : V.heap[p3]? = some (.cells #[y0, y1, y2] t3 (0, 0))) (hne : p2 ≠ p3) (a b c d e : Value) :
    (((((V.setCell ⟨p2, 0, none⟩ a).setCell ⟨p2, 1, none⟩ b).setCell ⟨p3, 0, none⟩ c).setCell ⟨p3, 1, none⟩ d).setCell ⟨p3, 2, none⟩ e).heap[p2]? = some (.cells #[a, b] t2 (0, 0)) ∧
    (((((V.setCell ⟨p2, 0, none⟩ a).setCell ⟨p2, 1, none⟩ b).setCell ⟨p3, 0, none⟩ c).setCell ⟨p3, 1, none⟩ d).setCell ⟨p3, 2, none⟩ e).heap[p3]? = some (.cells #[c, d, e] t3 (0, 0)) := by
  have e2 := heap_setCell_same _ p2 1 _ _ b (heap_setCell_same _ p2 0 _ _ a h2)
  have e3 : ((V.setCell ⟨p2, 0, none⟩ a).setCell ⟨p2, 1, none⟩ b).heap[p3]? = some (.cells #[y0, y1, y2] t3 (0, 0)) := by
    rw [Cell.heap_setCell_other _ _ _ _ _ (fun e => hne e.symm), Cell.heap_setCell_other _ _ _ _ _ (fun e => hne e.symm)]; exact h3
  have e4 := heap_setCell_same _ p3 2 _ _ e (heap_setCell_same _ p3 1 _ _ d (heap_setCell_same _ p3 0 _ _ c e3))
  refine ⟨?_, ?_⟩
  · rw [Cell.heap_setCell_other _ _ _ _ _ hne, Cell.heap_setCell_other _ _ _ _ _ hne, Cell.heap_setCell_other _ _ _ _ _ hne, e2]
    simp
  · rw [e4]
    simp
theorem ret_made {w V : World} {p2 p3 : Nat} (hm : Made w V) (h2 : w.heap.size ≤ p2) (h3 : w.heap.size ≤ p3) (a b c d e : Value) :
    Made w (((((V.setCell ⟨p2, 0, none⟩ a).setCell ⟨p2, 1, none⟩ b).setCell ⟨p3, 0, none⟩ c).setCell ⟨p3, 1, none⟩ d).setCell ⟨p3, 2, none⟩ e) :=
  Below.setCell (Below.setCell (Below.setCell (Below.setCell (Below.setCell hm h2 _) h2 _) h3 _) h3 _) h3 _
theorem set_sized {V : World} {p2 p3 : Nat} (a b c d e : Value) : (((((V.setCell ⟨p2, 0, none⟩ a).setCell ⟨p2, 1, none⟩ b).setCell ⟨p3, 0, none⟩ c).setCell ⟨p3, 1, none⟩ d).setCell ⟨p3, 2, none⟩ e).heap.size = V.heap.size := by simp only [size_setCell]
set_option maxRecDepth 100000 in
set_option maxHeartbeats 2000000 in
/-- A step of a task that has acts left: the act touches nothing. -/
theorem Step_idle (A : Option Addr) (m c0 : Nat) (cnt : Int) (T : Addr) (n c d : Nat) (s : Int) (k i o v : Int) (xs : List Int) (hm : m = xs.length) (hd : d < n) (hn : (n : Int) ≤ 9223372036854775807) (w : World) (hr : Rd .u64 w w.heap.size A xs)
    (ht : T.block < w.heap.size) (q0 : w.cell? (T.add (d * 4)) = some (.int .i64 k)) (q1 : w.cell? ((T.add (d * 4)).add 1) = some (.int .i64 i)) (q2 : w.cell? ((T.add (d * 4)).add 2) = some (.int .u64 o)) (q3 : w.cell? ((T.add (d * 4)).add 3) = some (.int .u64 v)) (hk : k < 0 ∨ 3 < k) :
    Calls Try.prog 75 #[.agg #[.slice A m c0, .int .i64 cnt], tv (some T) n c d s] w (StepPost A w xs cnt (some T) n c (d + 1) s) := by
  have HE := Lib.hid (fun w => Ended_r (some T) n c d s w hn (by omega))
  have hnd : decide (n ≤ d) = false := by simp; omega
  rw [hnd] at HE
  have HR := Lib.hid hr
  have HN := Lib.hid hm
  have f1 : w.cell? ⟨(T.add (d * 4)).block, (T.add (d * 4)).off + 1, none⟩ = some (.int .i64 i) := q1
  have f2 : w.cell? ⟨(T.add (d * 4)).block, (T.add (d * 4)).off + 2, none⟩ = some (.int .u64 o) := q2
  have f3 : w.cell? ⟨(T.add (d * 4)).block, (T.add (d * 4)).off + 3, none⟩ = some (.int .u64 v) := q3
  have hb0 : (T.add (d * 4)).block < w.heap.size := by rw [add_block]; exact ht
  have Q := Lib.hid (And.intro q0 (And.intro f1 (And.intro f2 f3)))
  clear hnd hr hm q0 q1 q2 q3 f1 f2 f3
  go_enter Try.func75, Try.ntmps75
  go_wp2_with fail
  refine (HE.out _).mono ?_
  rintro e w1 ⟨rfl, hM⟩
  obtain ⟨h0, h1, h2, h3, hB⟩ := four_boxes hM
  have hs := hM.size
  simp only [World.size_alloc] at hs
  have g0 := (hB.cell hb0).trans Q.out.1
  have g1 := (hB.cell (p := ⟨(T.add (d * 4)).block, (T.add (d * 4)).off + 1, none⟩) hb0).trans Q.out.2.1
  have g2 := (hB.cell (p := ⟨(T.add (d * 4)).block, (T.add (d * 4)).off + 2, none⟩) hb0).trans Q.out.2.2.1
  have g3 := (hB.cell (p := ⟨(T.add (d * 4)).block, (T.add (d * 4)).off + 3, none⟩) hb0).trans Q.out.2.2.2
  have d0 : (0 : Int) ≤ (d : Int) := by omega
  have d1 : (d : Int) < (n : Int) := by omega
  have H0 := Lib.hid h0
  have H1 := Lib.hid h1
  have H2 := Lib.hid h2
  have H3 := Lib.hid h3
  have HB := Lib.hid hB
  have a0 : w1.cell? ⟨w.heap.size, 0, none⟩ = some (.slice A m c0) := cell_of_row _ _ _ _ _ _ h0
  have a1 : w1.cell? ⟨w.heap.size, 1, none⟩ = some (.int .i64 cnt) := cell_of_row _ _ _ _ _ _ h0
  have b0 : w1.cell? ⟨w.heap.size + 1, 0, none⟩ = some (.slice (some T) n c) := cell_of_row _ _ _ _ _ _ h1
  have b1 : w1.cell? ⟨w.heap.size + 1, 1, none⟩ = some (.int .i64 (d : Int)) := cell_of_row _ _ _ _ _ _ h1
  have b2 : w1.cell? ⟨w.heap.size + 1, 2, none⟩ = some (.int .u64 s) := cell_of_row _ _ _ _ _ _ h1
  have z1 : w1.frozen? ⟨w.heap.size + 1, 1, none⟩ = false := frozen_of_row _ _ _ _ _ h1
  have x0 : w1.cell? ⟨w.heap.size + 1 + 1, 0, none⟩ = some (.slice none 0 0) := cell_of_row _ _ _ _ _ _ h2
  have x1 : w1.cell? ⟨w.heap.size + 1 + 1, 1, none⟩ = some (.int .i64 0) := cell_of_row _ _ _ _ _ _ h2
  have y0 : w1.cell? ⟨w.heap.size + 1 + 1 + 1, 0, none⟩ = some (.slice none 0 0) := cell_of_row _ _ _ _ _ _ h3
  have y1 : w1.cell? ⟨w.heap.size + 1 + 1 + 1, 1, none⟩ = some (.int .i64 0) := cell_of_row _ _ _ _ _ _ h3
  have y2 : w1.cell? ⟨w.heap.size + 1 + 1 + 1, 2, none⟩ = some (.int .u64 0) := cell_of_row _ _ _ _ _ _ h3
  have z20 : w1.frozen? ⟨w.heap.size + 1 + 1, 0, none⟩ = false := frozen_of_row _ _ _ _ _ h2
  have z21 : w1.frozen? ⟨w.heap.size + 1 + 1, 1, none⟩ = false := frozen_of_row _ _ _ _ _ h2
  have z30 : w1.frozen? ⟨w.heap.size + 1 + 1 + 1, 0, none⟩ = false := frozen_of_row _ _ _ _ _ h3
  have z31 : w1.frozen? ⟨w.heap.size + 1 + 1 + 1, 1, none⟩ = false := frozen_of_row _ _ _ _ _ h3
  have z32 : w1.frozen? ⟨w.heap.size + 1 + 1 + 1, 2, none⟩ = false := frozen_of_row _ _ _ _ _ h3
  clear h0 h1 h2 h3 hB hM HE Q
  have hl0 : w.heap.size < w1.heap.size := by omega
  have hl1 : w.heap.size + 1 < w1.heap.size := by omega
  have hl2 : w.heap.size + 1 + 1 < w1.heap.size := by omega
  have hl3 : w.heap.size + 1 + 1 + 1 < w1.heap.size := by omega
  have hm1 := Below.setCell (p := ⟨w.heap.size + 1, 1, none⟩) HB.out (by show _ ≤ _ + 1; omega) (.int .i64 ((d : Int) + 1))
  have k2 : (w1.setCell ⟨w.heap.size + 1, 1, none⟩ (.int .i64 ((d : Int) + 1))).heap[w.heap.size + 1 + 1]? = _ := (Cell.heap_setCell_other _ _ _ _ _ (by omega)).trans H2.out
  have k3 : (w1.setCell ⟨w.heap.size + 1, 1, none⟩ (.int .i64 ((d : Int) + 1))).heap[w.heap.size + 1 + 1 + 1]? = _ := (Cell.heap_setCell_other _ _ _ _ _ (by omega)).trans H3.out
  have HRR := Lib.hid (ret_rows k2 k3 (by omega) (.slice A m c0) (.int .i64 cnt) (.slice (some T) n c) (.int .i64 ((d : Int) + 1)) (.int .u64 s))
  have HRM := Lib.hid (ret_made (p2 := w.heap.size + 1 + 1) (p3 := w.heap.size + 1 + 1 + 1) hm1 (by omega) (by omega) (.slice A m c0) (.int .i64 cnt) (.slice (some T) n c) (.int .i64 ((d : Int) + 1)) (.int .u64 s))
  clear k2 k3 hm1
  have HZ := Lib.hid (show (Try.prog.info? 68).map (·.size) = some 2 by kernel_rfl)
  have HZ' := Lib.hid (show (Try.prog.info? 73).map (·.size) = some 3 by kernel_rfl)
  have hk0 : (k < 0) ∨ (¬ k < 0 ∧ 3 < k) := by omega
  rcases hk0 with hk0 | ⟨hk0, hk1⟩
  all_goals
    go_wp2_with fail
    go_region
    all_goals
      go_wp2_with fail
      refine bodyPost_ret (results_two rfl _ _ (w.heap.size + 1 + 1) (w.heap.size + 1 + 1 + 1) 68 73 #[.slice A m c0, .int .i64 cnt] #[.slice (some T) n c, .int .i64 ((d : Int) + 1), .int .u64 s] (0, 0) (0, 0) _ _ ?hp ?hg Try.underlying68 rfl HZ.out ?hq ?hg' Try.underlying73 rfl HZ'.out) rfl ?_
      case hp => simp [Act.put]
      case hq => simp [Act.put]
      case hg =>
        refine (heap_alloc_old _ _ ?_).trans HRR.out.1
        rw [set_sized, size_setCell]; omega
      case hg' =>
        refine (heap_alloc_old _ _ ?_).trans HRR.out.2
        rw [set_sized, size_setCell]; omega
      have hm2 := below_drewN (HRM.out.alloc (o := .cells #[.int .i64 k, .int .i64 i, .int .u64 o, .int .u64 v] 119) HRM.out.size) 1
      have hx := HN.out
      subst hx
      exact ⟨A, c0, .inl rfl, rfl, rd_same HR.out hm2 hm2.size, hm2⟩
end Go.Proofs.Ythllplocbciepaa.Ref7
