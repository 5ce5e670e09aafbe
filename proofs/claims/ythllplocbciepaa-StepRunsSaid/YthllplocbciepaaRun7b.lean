/- Package knellref07, walked: Run. -/
import Derived.Test.YthllplocbciepaaRun7m
import Derived.Test.YthllplocbciepaaCod5
namespace Go.Proofs.Ythllplocbciepaa.Cod.Seven
open Go.RowKit Go.Proofs.Ythllplocbciepaa Go.Proofs.Ythllplocbciepaa.Cell Go.Proofs.Ythllplocbciepaa.Ref7
set_option linter.unusedVariables false
set_option linter.unusedSimpArgs false
variable {a b sb ns : Nat}

variable {AF : Nat → Option Addr} {CF : Nat → Nat} {ls : List (List Acc)} {steps : List Nat} {sums : List Int}
/-- What holds between two picks of the document's Run: M is what the picks have come to. -/
structure RunI (A0 : Option Addr) (AF : Nat → Option Addr) (CF : Nat → Nat) (ls : List (List Acc)) (m n : Nat) (G : Option Addr) (w : World) (M : Mach (S7 a b sb ns)) (wr : World) : Prop where
  good : Good ls M
  ar : ∃ A c, wr.heap[w.heap.size]? = some (.cells #[.slice A m c, .int .i64 M.σ.c] 68 (0, 0)) ∧ m = M.σ.xs.length ∧ Rd .u64 wr wr.heap.size A M.σ.xs ∧ (∀ x, A = some x → x.block ≠ w.heap.size ∧ x.block ≠ w.heap.size + 1 ∧ ∀ g, G = some ⟨g, 0, none⟩ → x.block ≠ g) ∧ (A = A0 ∨ ∃ p : Addr, A = some p ∧ w.heap.size ≤ p.block)
  res : wr.heap[w.heap.size + 1]? = some (.cells #[.slice none 0 0, .int .i64 0] 68 (0, 0))
  rows : 0 < n → ∃ g, G = some ⟨g, 0, none⟩ ∧ w.heap.size + 1 < g ∧ Rows AF CF ls M g wr
  made : Made w wr
theorem RunI.start {M : Mach (S7 a b sb ns)} {w w2 : World} {A G : Option Addr} {m n c0 cG : Nat} (hg : Good ls M) (hm : m = M.σ.xs.length) (hn : n = ls.length) (hA : Rd .u64 w w.heap.size A M.σ.xs) (hAb : ∀ x, A = some x → x.block < w.heap.size)
    (hown : w2.ownsRow (w.heap.size + 1 + 1) 73 3 (.slice G n cG) n (mlist AF CF ls M.σ.steps M.σ.r.sums n))
    (hgr : (((w.alloc (.cells #[.slice A m c0, .int .i64 M.σ.c] 68)).alloc (.cells #[.slice none 0 0, .int .i64 0] 68)).alloc (.cells #[] 73)).grownBy w2 (some (w.heap.size + 1 + 1))) :
    RunI A AF CF ls m n G w M w2 := by
  have hs := hgr.size
  simp only [World.size_alloc] at hs
  have e0 : w2.heap[w.heap.size]? = some (.cells #[.slice A m c0, .int .i64 M.σ.c] 68 (0, 0)) := by
    rw [hgr.block _ (by simp only [World.size_alloc]; omega) (by intro e; injection e with e; omega), heap_alloc_old _ _ (by simp only [World.size_alloc]; omega), heap_alloc_old _ _ (by simp only [World.size_alloc]; omega)]
    exact heap_alloc_new _ _
  have e1 : w2.heap[w.heap.size + 1]? = some (.cells #[.slice none 0 0, .int .i64 0] 68 (0, 0)) := by
    rw [hgr.block _ (by simp only [World.size_alloc]; omega) (by intro e; injection e with e; omega), heap_alloc_old _ _ (by simp only [World.size_alloc]; omega)]
    have := heap_alloc_new (w.alloc (.cells #[.slice A m c0, .int .i64 M.σ.c] 68)) (.cells #[.slice none 0 0, .int .i64 0] 68)
    rw [World.size_alloc] at this
    exact this
  have hM : Made w w2 := ((((Made.refl w).alloc (Nat.le_refl _) _).alloc (by simp only [World.size_alloc]; omega) _).alloc (by simp only [World.size_alloc]; omega) _).grown hgr (by simp only [World.size_alloc]; omega) (fun j ej => by injection ej with ej; omega)
  refine ⟨hg, ⟨A, c0, e0, hm, (hA.later hM).more hM.size, fun x hx => ?_, Or.inl rfl⟩, e1, fun h0 => ?_, hM⟩
  · have := hAb x hx
    refine ⟨by omega, by omega, fun g hG => ?_⟩
    have := (hown.lt g (by rw [hG]; rfl)).1
    omega
  · obtain ⟨g, h1, h2, h3⟩ := rows_of_own hn hown h0
    exact ⟨g, h1, by omega, h3⟩
theorem RunI.later {M : Mach (S7 a b sb ns)} {w wr w5 : World} {A0 G : Option Addr} {m n : Nat} (h : RunI A0 AF CF ls m n G w M wr) (hm : Made wr w5) : RunI A0 AF CF ls m n G w M w5 := by
  obtain ⟨A, c, h1, h2, h3, h4, h5⟩ := h.ar
  refine ⟨h.good, ⟨A, c, (hm.block _ (Array.getElem?_eq_some_iff.1 h1).1).trans h1, h2, (h3.later hm).more hm.size, h4, h5⟩, (hm.block _ (Array.getElem?_eq_some_iff.1 h.res).1).trans h.res, fun h0 => ?_, Below.trans h.made (Below.mono hm h.made.size)⟩
  obtain ⟨g, k1, k2, k3⟩ := h.rows h0
  refine ⟨g, k1, k2, k3.same (hm.block _ ?_)⟩
  obtain ⟨cur, k4, _⟩ := k3.row
  exact (Array.getElem?_eq_some_iff.1 k4).1
theorem made_of {wr X : World} {P : Prop} (h : Hid (Made wr X) ∧ P) : Made wr X := h.1.out
theorem made_al {wr X : World} {o : Obj} {P : Prop} (h : Hid (Made wr X) ∧ P) : Made wr (X.alloc o) := h.1.out.alloc h.1.out.size _
theorem made_se {wr X : World} {p : Addr} {v : Value} {P : Prop} (h : Hid (Made wr X) ∧ P) (hp : wr.heap.size ≤ p.block) : Made wr (X.setCell p v) := Below.setCell h.1.out hp v
theorem made_a {w X : World} {o : Obj} (h : Made w X) : Made w (X.alloc o) := h.alloc h.size _
theorem made_d {w X : World} (h : Made w X) : Made w X.drew := below_drewN h 1
theorem made_s {w X : World} {b j : Nat} {v : Value} (h : Made w X) (hp : w.heap.size ≤ b) : Made w (X.setCell ⟨b, j, none⟩ v) := Below.setCell h hp v
theorem new_sz2 {w : World} {o1 o2 : Obj} {A8 A9 : Option Addr} (h : A9 = A8 ∨ ∃ p : Addr, A9 = some p ∧ ((w.drew.alloc o1).alloc o2).heap.size ≤ p.block) : A9 = A8 ∨ ∃ p : Addr, A9 = some p ∧ w.heap.size + 1 + 1 ≤ p.block := h.imp id fun ⟨p, h1, h2⟩ => ⟨p, h1, by rw [World.size_alloc, World.size_alloc] at h2; exact h2⟩
theorem new_sz1 {w : World} {o1 : Obj} {A8 A9 : Option Addr} (h : A9 = A8 ∨ ∃ p : Addr, A9 = some p ∧ (w.drew.alloc o1).heap.size ≤ p.block) : A9 = A8 ∨ ∃ p : Addr, A9 = some p ∧ w.heap.size + 1 ≤ p.block := h.imp id fun ⟨p, h1, h2⟩ => ⟨p, h1, by rw [World.size_alloc] at h2; exact h2⟩
theorem new_sz0 {w : World} {A8 A9 : Option Addr} (h : A9 = A8 ∨ ∃ p : Addr, A9 = some p ∧ w.drew.heap.size ≤ p.block) : A9 = A8 ∨ ∃ p : Addr, A9 = some p ∧ w.heap.size ≤ p.block := h
theorem zeros2 {w w6 : World} {o1 o2 : Array Value} {t1 t2 : TypeId} (hM : Made ((w.drew.alloc (.cells o1 t1)).alloc (.cells o2 t2)) w6) : w6.heap[w.heap.size]? = some (.cells o1 t1 (0, 0)) ∧ w6.heap[w.heap.size + 1]? = some (.cells o2 t2 (0, 0)) ∧ w.heap.size + 1 + 1 ≤ w6.heap.size := by
  have e : w.drew.heap.size = w.heap.size := rfl
  have hs := hM.size
  simp only [World.size_alloc, e] at hs
  refine ⟨?_, ?_, hs⟩
  · rw [hM.block _ (by simp only [World.size_alloc, e]; omega), heap_alloc_old _ _ (by simp only [World.size_alloc, e]; omega)]
    exact heap_alloc_new w.drew _
  · rw [hM.block _ (by simp only [World.size_alloc, e]; omega)]
    have := heap_alloc_new (w.drew.alloc (.cells o1 t1)) (.cells o2 t2)
    simp only [World.size_alloc, e] at this
    exact this
theorem zeros1 {w w6 : World} {o1 : Array Value} {t1 : TypeId} (hM : Made (w.drew.alloc (.cells o1 t1)) w6) : w6.heap[w.heap.size]? = some (.cells o1 t1 (0, 0)) ∧ w.heap.size + 1 ≤ w6.heap.size := by
  have e : w.drew.heap.size = w.heap.size := rfl
  have hs := hM.size
  simp only [World.size_alloc, e] at hs
  refine ⟨?_, hs⟩
  rw [hM.block _ (by simp only [World.size_alloc, e]; omega)]
  exact heap_alloc_new w.drew _
theorem zA {w6 : World} {p : Nat} {x y : Value} {t : TypeId} (h : w6.heap[p]? = some (.cells #[x, y] t (0, 0))) : w6.cell? ⟨p, 0, none⟩ = some x ∧ w6.cell? ⟨p, 1, none⟩ = some y ∧ w6.frozen? ⟨p, 0, none⟩ = false ∧ w6.frozen? ⟨p, 1, none⟩ = false ∧ p < w6.heap.size :=
  ⟨cell_of_row _ _ _ _ _ _ h, cell_of_row _ _ _ _ _ _ h, frozen_of_row _ _ _ _ _ h, frozen_of_row _ _ _ _ _ h, (Array.getElem?_eq_some_iff.1 h).1⟩
theorem zT {w6 : World} {p : Nat} {x y z : Value} {t : TypeId} (h : w6.heap[p]? = some (.cells #[x, y, z] t (0, 0))) : w6.cell? ⟨p, 0, none⟩ = some x ∧ w6.cell? ⟨p, 1, none⟩ = some y ∧ w6.cell? ⟨p, 2, none⟩ = some z ∧ w6.frozen? ⟨p, 0, none⟩ = false ∧ w6.frozen? ⟨p, 1, none⟩ = false ∧ w6.frozen? ⟨p, 2, none⟩ = false ∧ p < w6.heap.size :=
  ⟨cell_of_row _ _ _ _ _ _ h, cell_of_row _ _ _ _ _ _ h, cell_of_row _ _ _ _ _ _ h, frozen_of_row _ _ _ _ _ h, frozen_of_row _ _ _ _ _ h, frozen_of_row _ _ _ _ _ h, (Array.getElem?_eq_some_iff.1 h).1⟩
/-- What the region that holds the call of Step leaves. -/
structure Leaf (w5 : World) (A8 A9 : Option Addr) (xs : List Int) (p12 p13 : Nat) (v0 v1 u0 u1 u2 : Value) (W : World) : Prop where
  r12 : W.heap[p12]? = some (.cells #[v0, v1] 68 (0, 0))
  r13 : W.heap[p13]? = some (.cells #[u0, u1, u2] 73 (0, 0))
  le : w5.heap.size ≤ p12 ∧ w5.heap.size ≤ p13
  made : Made w5 W
  rd : Rd .u64 W W.heap.size A9 xs
  new : A9 = A8 ∨ ∃ p : Addr, A9 = some p ∧ w5.heap.size ≤ p.block
section
variable {w5 wc w6 : World} {A8 A9 : Option Addr} {xs : List Int} {v0 v1 u0 u1 u2 : Value}
theorem rd_keep {W : World} {p q B : Nat} (hR : Rd .u64 w6 w6.heap.size A9 xs) (hA : A9 = A8 ∨ ∃ a : Addr, A9 = some a ∧ B ≤ a.block) (h8 : ∀ a, A8 = some a → 0 < xs.length → a.block < p ∧ a.block < q) (hp : p < B) (hq : q < B) (hs : w6.heap.size ≤ W.heap.size) (hW : ∀ k : Nat, k < w6.heap.size → k ≠ p → k ≠ q → W.heap[k]? = w6.heap[k]?) : Rd .u64 W W.heap.size A9 xs := fun i hi => by
  obtain ⟨a, h1, h2, h3⟩ := hR i hi
  have hb : a.block ≠ p ∧ a.block ≠ q := by
    rcases hA with rfl | ⟨a', h4, h5⟩
    · have := h8 a h1 (by omega)
      omega
    · rw [h1] at h4
      obtain rfl := Option.some.inj h4
      omega
  refine ⟨a, h1, by omega, ?_⟩
  rw [← h3]
  exact World.cell?_of_block (hW _ (by rw [add_block]; exact h2) (by rw [add_block]; exact hb.1) (by rw [add_block]; exact hb.2))
theorem new_of {B : Nat} (hA : A9 = A8 ∨ ∃ a : Addr, A9 = some a ∧ B ≤ a.block) (hB : w5.heap.size ≤ B) : A9 = A8 ∨ ∃ p : Addr, A9 = some p ∧ w5.heap.size ≤ p.block := hA.imp id fun ⟨p, h1, h2⟩ => ⟨p, h1, by omega⟩
theorem leaf_ab {p12 p13 : Nat} {x0 x1 y0 y1 y2 : Value} (hM : Made w5 w6) (hR : Rd .u64 w6 w6.heap.size A9 xs) (hA : A9 = A8 ∨ ∃ a : Addr, A9 = some a ∧ w5.heap.size + 1 + 1 ≤ a.block) (h8 : ∀ a, A8 = some a → 0 < xs.length → a.block < w5.heap.size)
    (h12 : w6.heap[p12]? = some (.cells #[x0, x1] 68 (0, 0))) (h13 : w6.heap[p13]? = some (.cells #[y0, y1, y2] 73 (0, 0))) (hp : (p12 = w5.heap.size ∧ p13 = w5.heap.size + 1) ∨ (p13 = w5.heap.size ∧ p12 = w5.heap.size + 1)) :
    Leaf w5 A8 A9 xs p12 p13 v0 v1 u0 u1 u2 (((((w6.setCell ⟨p12, 0, none⟩ v0).setCell ⟨p12, 1, none⟩ v1).setCell ⟨p13, 0, none⟩ u0).setCell ⟨p13, 1, none⟩ u1).setCell ⟨p13, 2, none⟩ u2) := by
  obtain ⟨e1, e2⟩ := ret_rows h12 h13 (by omega) v0 v1 u0 u1 u2
  exact ⟨e1, e2, by omega, ret_made hM (by omega) (by omega) _ _ _ _ _, rd_keep (p := p12) (q := p13) hR hA (fun a h1 h2 => by have := h8 a h1 h2; omega) (by omega) (by omega) (by rw [set_sized]; exact Nat.le_refl _) (fun k _ h1 h2 => sets_other h1 h2 _ _ _ _ _), new_of hA (by omega)⟩
theorem leaf_c {x0 x1 : Value} (hM : Made w5 w6) (hR : Rd .u64 w6 w6.heap.size A9 xs) (hA : A9 = A8 ∨ ∃ a : Addr, A9 = some a ∧ w5.heap.size + 1 ≤ a.block) (h8 : ∀ a, A8 = some a → 0 < xs.length → a.block < w5.heap.size)
    (h12 : w6.heap[w5.heap.size]? = some (.cells #[x0, x1] 68 (0, 0))) :
    Leaf w5 A8 A9 xs w5.heap.size w6.heap.size v0 v1 u0 u1 u2 (((w6.setCell ⟨w5.heap.size, 0, none⟩ v0).setCell ⟨w5.heap.size, 1, none⟩ v1).alloc (.cells #[u0, u1, u2] 73)) := by
  have hl := (Array.getElem?_eq_some_iff.1 h12).1
  have e2 := heap_setCell_same _ _ 1 _ _ v1 (heap_setCell_same _ _ 0 _ _ v0 h12)
  have sz : ((w6.setCell ⟨w5.heap.size, 0, none⟩ v0).setCell ⟨w5.heap.size, 1, none⟩ v1).heap.size = w6.heap.size := by simp only [Ref2.size_setCell]
  have hm : Made w5 ((w6.setCell ⟨w5.heap.size, 0, none⟩ v0).setCell ⟨w5.heap.size, 1, none⟩ v1) := made_s (made_s hM (Nat.le_refl _)) (Nat.le_refl _)
  refine ⟨?_, ?_, by omega, made_a hm, rd_keep (p := w5.heap.size) (q := w5.heap.size) hR hA (fun a h1 h2 => by have := h8 a h1 h2; omega) (by omega) (by omega) (by rw [World.size_alloc, sz]; omega) (fun k hk h1 _ => ?_), new_of hA (by omega)⟩
  · rw [heap_alloc_old _ _ (by rw [sz]; exact hl), e2]; simp
  · have := heap_alloc_new ((w6.setCell ⟨w5.heap.size, 0, none⟩ v0).setCell ⟨w5.heap.size, 1, none⟩ v1) (.cells #[u0, u1, u2] 73)
    rw [sz] at this
    exact this
  · rw [heap_alloc_old _ _ (by rw [sz]; exact hk), Cell.heap_setCell_other _ _ _ _ _ h1, Cell.heap_setCell_other _ _ _ _ _ h1]
theorem leaf_d {y0 y1 y2 : Value} (hM : Made w5 w6) (hR : Rd .u64 w6 w6.heap.size A9 xs) (hA : A9 = A8 ∨ ∃ a : Addr, A9 = some a ∧ w5.heap.size + 1 ≤ a.block) (h8 : ∀ a, A8 = some a → 0 < xs.length → a.block < w5.heap.size)
    (h13 : w6.heap[w5.heap.size]? = some (.cells #[y0, y1, y2] 73 (0, 0))) :
    Leaf w5 A8 A9 xs w6.heap.size w5.heap.size v0 v1 u0 u1 u2 ((((w6.setCell ⟨w5.heap.size, 0, none⟩ u0).setCell ⟨w5.heap.size, 1, none⟩ u1).setCell ⟨w5.heap.size, 2, none⟩ u2).alloc (.cells #[v0, v1] 68)) := by
  have hl := (Array.getElem?_eq_some_iff.1 h13).1
  have e2 := heap_setCell_same _ _ 2 _ _ u2 (heap_setCell_same _ _ 1 _ _ u1 (heap_setCell_same _ _ 0 _ _ u0 h13))
  have sz : (((w6.setCell ⟨w5.heap.size, 0, none⟩ u0).setCell ⟨w5.heap.size, 1, none⟩ u1).setCell ⟨w5.heap.size, 2, none⟩ u2).heap.size = w6.heap.size := by simp only [Ref2.size_setCell]
  have hm : Made w5 (((w6.setCell ⟨w5.heap.size, 0, none⟩ u0).setCell ⟨w5.heap.size, 1, none⟩ u1).setCell ⟨w5.heap.size, 2, none⟩ u2) := made_s (made_s (made_s hM (Nat.le_refl _)) (Nat.le_refl _)) (Nat.le_refl _)
  refine ⟨?_, ?_, by omega, made_a hm, rd_keep (p := w5.heap.size) (q := w5.heap.size) hR hA (fun a h1 h2 => by have := h8 a h1 h2; omega) (by omega) (by omega) (by rw [World.size_alloc, sz]; omega) (fun k hk h1 _ => ?_), new_of hA (by omega)⟩
  · have := heap_alloc_new (((w6.setCell ⟨w5.heap.size, 0, none⟩ u0).setCell ⟨w5.heap.size, 1, none⟩ u1).setCell ⟨w5.heap.size, 2, none⟩ u2) (.cells #[v0, v1] 68)
    rw [sz] at this
    exact this
  · rw [heap_alloc_old _ _ (by rw [sz]; exact hl), e2]; simp
  · rw [heap_alloc_old _ _ (by rw [sz]; exact hk), Cell.heap_setCell_other _ _ _ _ _ h1, Cell.heap_setCell_other _ _ _ _ _ h1, Cell.heap_setCell_other _ _ _ _ _ h1]
theorem leaf_e (hM : Made w5 w6) (hR : Rd .u64 w6 w6.heap.size A9 xs) (hA : A9 = A8 ∨ ∃ a : Addr, A9 = some a ∧ w5.heap.size ≤ a.block) :
    Leaf w5 A8 A9 xs w6.heap.size (w6.heap.size + 1) v0 v1 u0 u1 u2 ((w6.alloc (.cells #[v0, v1] 68)).alloc (.cells #[u0, u1, u2] 73)) := by
  have hs := hM.size
  have mm : Made w6 ((w6.alloc (.cells #[v0, v1] 68)).alloc (.cells #[u0, u1, u2] 73)) := made_a (made_a (Made.refl _))
  refine ⟨?_, ?_, by omega, made_a (made_a hM), (hR.later mm).more mm.size, new_of hA (by omega)⟩
  · rw [heap_alloc_old _ _ (by rw [World.size_alloc]; omega)]
    exact heap_alloc_new _ _
  · have := heap_alloc_new (w6.alloc (.cells #[v0, v1] 68)) (.cells #[u0, u1, u2] 73)
    rw [World.size_alloc] at this
    exact this
theorem leaf_f (hM : Made w5 w6) (hR : Rd .u64 w6 w6.heap.size A9 xs) (hA : A9 = A8 ∨ ∃ a : Addr, A9 = some a ∧ w5.heap.size ≤ a.block) :
    Leaf w5 A8 A9 xs (w6.heap.size + 1) w6.heap.size v0 v1 u0 u1 u2 ((w6.alloc (.cells #[u0, u1, u2] 73)).alloc (.cells #[v0, v1] 68)) := by
  have hs := hM.size
  have mm : Made w6 ((w6.alloc (.cells #[u0, u1, u2] 73)).alloc (.cells #[v0, v1] 68)) := made_a (made_a (Made.refl _))
  refine ⟨?_, ?_, by omega, made_a (made_a hM), (hR.later mm).more mm.size, new_of hA (by omega)⟩
  · have := heap_alloc_new (w6.alloc (.cells #[u0, u1, u2] 73)) (.cells #[v0, v1] 68)
    rw [World.size_alloc] at this
    exact this
  · rw [heap_alloc_old _ _ (by rw [World.size_alloc]; omega)]
    exact heap_alloc_new _ _
end
/-- A step of the document's Run, all its stores. -/
theorem RunI.step {M : Mach (S7 a b sb ns)} {w w5 wx : World} {A0 A8 A9 : Option Addr} {g m n q d p12 p13 c8 c9 : Nat} {xs9 : List Int} {cn9 s9 : Int} {l : List Acc} (h : RunI A0 AF CF ls m n (some ⟨g, 0, none⟩) w M w5) (hnw : A8 = A0 ∨ ∃ p : Addr, A8 = some p ∧ w.heap.size ≤ p.block) (hn : n = ls.length) (hq : q < ls.length) (hl : l = ls[q]) (hd : d = M.σ.steps.getD q 0) (hlt : ¬ l.length ≤ d)
    (hb : w5.heap[w.heap.size]? = some (.cells #[.slice A8 m c8, .int .i64 M.σ.c] 68 (0, 0))) (hap : ∀ x, A8 = some x → x.block ≠ w.heap.size ∧ x.block ≠ w.heap.size + 1 ∧ ∀ g', some (⟨g, 0, none⟩ : Addr) = some ⟨g', 0, none⟩ → x.block ≠ g')
    (hx : xs9 = (M.step q).σ.xs) (hc : cn9 = (M.step q).σ.c) (hs : s9 = (M.step q).σ.r.sums.getD q 0) (hL : Leaf w5 A8 A9 xs9 p12 p13 (.slice A9 m c9) (.int .i64 cn9) (.slice (AF q) l.length (CF q)) (.int .i64 ((d : Int) + 1)) (.int .u64 s9) wx) :
    RunI A0 AF CF ls m n (some ⟨g, 0, none⟩) w (M.step q) (((((wx.setCell ⟨w.heap.size, 0, none⟩ (.slice A9 m c9)).setCell ⟨w.heap.size, 1, none⟩ (.int .i64 cn9)).setCell ⟨g, q * 3, none⟩ (.slice (AF q) l.length (CF q))).setCell ⟨g, q * 3 + 1, none⟩ (.int .i64 ((d : Int) + 1))).setCell ⟨g, q * 3 + 2, none⟩ (.int .u64 s9)) := by
  subst hl
  obtain ⟨k1, k2, ⟨sx, k3⟩, k4, k5⟩ := h.good.step hq (by omega)
  have l0 := (Array.getElem?_eq_some_iff.1 hb).1
  have l1 := (Array.getElem?_eq_some_iff.1 h.res).1
  obtain ⟨g', e1, e2, e3⟩ := h.rows (by omega)
  have e4 : g = g' := by simpa using e1
  subst e4
  have lg := (e3.cells hq).2.2.2.2
  have esx : s9 = sx := by
    rw [hs, k3, List.getD_eq_getElem?_getD, List.getElem?_set_self (by rw [h.good.ml]; exact hq)]; rfl
  have hm := hL.made.size
  have o : ∀ k : Nat, k ≠ w.heap.size → k ≠ g → (((((wx.setCell ⟨w.heap.size, 0, none⟩ (.slice A9 m c9)).setCell ⟨w.heap.size, 1, none⟩ (.int .i64 cn9)).setCell ⟨g, q * 3, none⟩ (.slice (AF q) ls[q].length (CF q))).setCell ⟨g, q * 3 + 1, none⟩ (.int .i64 ((d : Int) + 1))).setCell ⟨g, q * 3 + 2, none⟩ (.int .u64 s9)).heap[k]? = wx.heap[k]? := fun k h1 h2 => by
    rw [Cell.heap_setCell_other _ _ _ _ _ h2, Cell.heap_setCell_other _ _ _ _ _ h2, Cell.heap_setCell_other _ _ _ _ _ h2, Cell.heap_setCell_other _ _ _ _ _ h1, Cell.heap_setCell_other _ _ _ _ _ h1]
  have sz : (((((wx.setCell ⟨w.heap.size, 0, none⟩ (.slice A9 m c9)).setCell ⟨w.heap.size, 1, none⟩ (.int .i64 cn9)).setCell ⟨g, q * 3, none⟩ (.slice (AF q) ls[q].length (CF q))).setCell ⟨g, q * 3 + 1, none⟩ (.int .i64 ((d : Int) + 1))).setCell ⟨g, q * 3 + 2, none⟩ (.int .u64 s9)).heap.size = wx.heap.size := by simp only [Ref2.size_setCell]
  have hap9 : ∀ x, A9 = some x → x.block ≠ w.heap.size ∧ x.block ≠ w.heap.size + 1 ∧ ∀ g', some (⟨g, 0, none⟩ : Addr) = some ⟨g', 0, none⟩ → x.block ≠ g' := fun x hx => by
    rcases hL.new with e | ⟨p, f1, f2⟩
    · exact hap x (e ▸ hx)
    · rw [hx] at f1
      obtain rfl := Option.some.inj f1
      refine ⟨by omega, by omega, fun g' hg' => ?_⟩
      have : g = g' := by simpa using hg'
      omega
  have hxl : xs9.length = m := by
    obtain ⟨_, _, _, f1, _⟩ := h.ar
    rw [hx, k5]; exact f1.symm
  have hnw9 : A9 = A0 ∨ ∃ p : Addr, A9 = some p ∧ w.heap.size ≤ p.block := by
    have := h.made.size
    rcases hL.new with e | ⟨p, f1, f2⟩
    · rw [e]; exact hnw
    · exact Or.inr ⟨p, f1, by omega⟩
  refine ⟨k1, ⟨A9, c9, ?_, ?_, ?_, hap9, hnw9⟩, ?_, fun _ => ⟨g, rfl, e2, ?_⟩, ?_⟩
  · rw [Cell.heap_setCell_other _ _ _ _ _ (by omega), Cell.heap_setCell_other _ _ _ _ _ (by omega), Cell.heap_setCell_other _ _ _ _ _ (by omega), heap_setCell_same _ _ _ _ _ _ (heap_setCell_same _ _ _ _ _ _ ((hL.made.block _ l0).trans hb)), ← hc]
    simp
  · rw [← hx]; exact hxl.symm
  · rw [← hx]
    intro i hi
    obtain ⟨x, f1, f2, f3⟩ := hL.rd i hi
    obtain ⟨f4, f5, f6⟩ := hap9 x f1
    refine ⟨x, f1, by rw [sz]; exact f2, ?_⟩
    rw [← f3]
    exact World.cell?_of_block (o _ (by rw [add_block]; exact f4) (by rw [add_block]; exact f6 g rfl))
  · rw [o _ (by omega) (by omega)]
    exact (hL.made.block _ l1).trans h.res
  · have hr := ((e3.same (w' := (wx.setCell ⟨w.heap.size, 0, none⟩ (.slice A9 m c9)).setCell ⟨w.heap.size, 1, none⟩ (.int .i64 cn9)) (by
      rw [Cell.heap_setCell_other _ _ _ _ _ (by omega), Cell.heap_setCell_other _ _ _ _ _ (by omega)]
      exact hL.made.block _ lg)).put hq (M' := M.step q) (d := d + 1) (s := s9) (by rw [k2, hd]) (by rw [esx]; exact k3) (by rw [h.good.sl]; exact hq) (by rw [h.good.ml]; exact hq))
    exact hr
  · exact made_s (made_s (made_s (made_s (made_s (Below.trans h.made (Below.mono hL.made h.made.size)) (Nat.le_refl _)) (Nat.le_refl _)) (by omega)) (by omega)) (by omega)
set_option maxRecDepth 100000 in
set_option maxHeartbeats 40000000 in
theorem Run_r {M : Mach (S7 a b sb ns)} (hg : Good ls M) (A : Option Addr) (m c0 : Nat) (hm : m = M.σ.xs.length) (T : Option Addr) (n c : Nat) (hn : n = ls.length) (hn6 : n ≤ 6) (A' : Option Addr) (N' c' : Nat) (ps : List Int) (hN' : N' = ps.length) (h200 : N' ≤ 200)
    (hc : M.σ.c + 200 < 4611686018427387904) (w : World) (hA : Rd .u64 w w.heap.size A M.σ.xs) (hAb : ∀ x, A = some x → x.block < w.heap.size) (hT : ReadsZ 3 w T n (mlist AF CF ls M.σ.steps M.σ.r.sums n))
    (hls : ∀ i (h : i < ls.length), RdA w w.heap.size (AF i) ls[i] ∧ ls[i].length ≤ 30) (hps : Rd .i64 w w.heap.size A' ps) :
    Calls Try.prog 47 #[.agg #[.slice A m c0, .int .i64 M.σ.c], .slice T n c, .slice A' N' c'] w fun e w' => ∃ A2 c2 G cap, e = .returned (.tuple #[.agg #[.slice A2 m c2, .int .i64 (M.run ps).1.σ.c], .slice G n cap, .int .i64 (M.run ps).2]) ∧
      Rd .u64 w' w'.heap.size A2 (M.run ps).1.σ.xs ∧ (0 < n → ∃ g, G = some ⟨g, 0, none⟩ ∧ w.heap.size ≤ g ∧ Rows AF CF ls (M.run ps).1 g w') ∧ (A2 = A ∨ ∃ p : Addr, A2 = some p ∧ w.heap.size ≤ p.block) ∧ Made w w' := by
  have HE := Lib.hid elem_task
  have HT : Hid (ReadsZ 3 (((w.alloc (.cells #[.slice A m c0, .int .i64 M.σ.c] 68)).alloc (.cells #[.slice none 0 0, .int .i64 0] 68)).alloc (.cells #[] 73)) T n (mlist AF CF ls M.σ.steps M.σ.r.sums n)) := ⟨hT.1, fun j u hu => by
    obtain ⟨ad, h1, h2⟩ := hT.2 j u hu
    refine ⟨ad, h1, ?_⟩
    rw [← h2]
    have hlt := Go.block_lt_of_cell h2
    exact World.cell?_of_block (by rw [heap_alloc_old _ _ (by simp only [World.size_alloc]; omega), heap_alloc_old _ _ (by simp only [World.size_alloc]; omega), heap_alloc_old _ _ hlt])⟩
  have HOW : Hid ((((w.alloc (.cells #[.slice A m c0, .int .i64 M.σ.c] 68)).alloc (.cells #[.slice none 0 0, .int .i64 0] 68)).alloc (.cells #[] 73)).ownsRow (w.heap.size + 1 + 1) 73 3 (.slice (some ⟨w.heap.size + 1 + 1, 0, none⟩) 0 0) 0 []) := by
    have := World.ownsRow_made (e := 73) (size := 3) (base := w.heap.size + 1 + 1) ((w.alloc (.cells #[.slice A m c0, .int .i64 M.σ.c] 68)).alloc (.cells #[.slice none 0 0, .int .i64 0] 68)) #[] 0 (by simp only [World.size_alloc]; omega) (by unfold maxLen; omega) rfl
    simp only [World.size_alloc] at this
    exact this
  have HA := Lib.hid hA
  have HAB := Lib.hid hAb
  have HG := Lib.hid hg
  have HM := Lib.hid hm
  have HN := Lib.hid hn
  have HN' := Lib.hid hN'
  have HLS := Lib.hid hls
  have HPS := Lib.hid hps
  have HC := Lib.hid hc
  clear hT hA hAb hg hm hn hN' hls hps hc
  go_enter Try.func47, Try.ntmps47
  go_wp2_with (at_builtin; (refine wpList_appz _ rfl (.tmp 14) (.tmp 15) 71 rfl (w.heap.size + 1 + 1) 73 (.agg #[.slice none 0 0, .int .i64 0, .int .u64 0]) 3 40 HE.out (.slice (some ⟨w.heap.size + 1 + 1, 0, none⟩) 0 0) 0 [] (by simp [Act.eval, Act.put]) HOW.out T n c (mlist AF CF ls M.σ.steps M.σ.r.sums n) (by simp [Act.eval, Act.put]) HT.out mlist_one (by unfold maxLen; omega) (by omega) (by simp only [World.size_alloc]; omega) ?_; intro G cG w2 hown hgrow hat; rw [Nat.zero_add] at hown; rw [Nat.zero_add]; rw [List.nil_append] at hown; have HO2 := Lib.hid hown; have HG2 := Lib.hid hgrow; clear hown hgrow hat))
  have HR0 : Hid (RunI A AF CF ls m n G w M w2) := RunI.start HG.out HM.out HN.out HA.out HAB.out HO2.out HG2.out
  have hcg : n ≤ cG ∨ True := Or.inr trivial
  clear HO2 HG2 HT HOW HE HA HAB HG HM hcg
  go_loopw [9, 10] (fun nv iv wr => ∃ (k : Nat) (Mk : Mach (S7 a b sb ns)) (nk : Int), k ≤ N' ∧ iv = .int .i64 k ∧ nv = .int .i64 nk ∧ Hid (M.run (ps.take k) = (Mk, nk)) ∧ Hid (0 ≤ nk ∧ nk ≤ k ∧ Mk.σ.c ≤ M.σ.c + k) ∧ Hid (RunI A AF CF ls m n G w Mk wr)) (fun _ iv _ => (N' - intOf iv).toNat)
  case atStart => exact ⟨0, M, 0, by omega, rfl, rfl, rfl, by show _ ∧ _; omega, HR0⟩
  case round =>
    obtain ⟨k, Mk, nk, hk, rfl, rfl, HRUN, HNK, HRI⟩ := hrel
    clear HR0
    by_cases hlt : k < N'
    · have hkl : k < ps.length := by have := HN'.out; omega
      obtain ⟨a0, rfl, hb0, hcell0⟩ := HPS.out k hkl
      have hcell := (HRI.out.made.cell (p := a0.add k) (by rw [add_block]; exact hb0)).trans hcell0
      have HRS := Lib.hid (run_snoc M ps hkl)
      generalize ps[k] = p at *
      have hnk := HNK.out
      have i0 : (0 : Int) ≤ (k : Int) := by omega
      have i1 : (k : Int) < (N' : Int) := by omega
      clear hcell0
      by_cases hp0 : p < 0
      · have HS : Hid (M.run (ps.take (k + 1)) = (Mk, nk)) := by
          show _ = _
          rw [HRS.out, HRUN.out]
          unfold Mach.pick Mach.may
          rw [decide_eq_false (by omega)]
          rfl
        have hp1 : ¬ 0 ≤ p := by omega
        go_wp2_with fail
        go_roundw
        case rel => exact ⟨k + 1, Mk, nk, by omega, by go_num, rfl, HS, by show _ ∧ _; omega, HRI⟩
        case measure => simp [intOf]; omega
      · obtain ⟨q, rfl⟩ : ∃ q : Nat, p = (q : Int) := ⟨p.toNat, by omega⟩
        have hp1 : (0 : Int) ≤ (q : Int) := by omega
        have hkl9 : Hid (Mk.ks.length = n) := HRI.out.good.kl.trans HN.out.symm
        by_cases hqn : n ≤ q
        · have HS : Hid (M.run (ps.take (k + 1)) = (Mk, nk)) := by
            show _ = _
            rw [HRS.out, HRUN.out]
            unfold Mach.pick Mach.may
            simp only
            rw [hkl9.out, decide_eq_false (p := (q : Int) < (n : Int)) (by omega)]
            simp
          have hq1 : ¬ (q : Int) < (n : Int) := by omega
          clear hp0
          go_wp2_with fail
          go_roundw
          case rel => exact ⟨k + 1, Mk, nk, by omega, by go_num, rfl, HS, by show _ ∧ _; omega, HRI⟩
          case measure => simp [intOf]; omega
        · obtain ⟨g, rfl, hgw, hrw⟩ := HRI.out.rows (by omega)
          have hql : q < ls.length := by have := HN.out; omega
          obtain ⟨t0, t1, t2, tz, tl⟩ := hrw.cells hql
          obtain ⟨hpl1, hpl2⟩ := HRI.out.good.pl q hql
          obtain ⟨hla, hlb⟩ := HLS.out q hql
          have hq1 : (q : Int) < (n : Int) := by omega
          have hov := HRI.out.good.over hql
          obtain ⟨d, hd⟩ : ∃ d, d = Mk.σ.steps.getD q 0 := ⟨_, rfl⟩
          obtain ⟨l, hl⟩ : ∃ l, l = ls[q] := ⟨_, rfl⟩
          obtain ⟨s, hs⟩ : ∃ s, s = Mk.σ.r.sums.getD q 0 := ⟨_, rfl⟩
          rw [← hd, ← hl] at hpl1 hpl2 hov
          rw [← hl] at hla hlb t0
          rw [← hd] at t1
          rw [← hs] at t2
          have HER := Lib.hid (fun w => Ended_r (AF q) l.length (CF q) d s w (by omega) (by omega))
          have HLA := Lib.hid hla
          have HOV := Lib.hid hov
          have HPL := Lib.hid hpl1
          have HL := Lib.hid hl
          have HD := Lib.hid hd
          have HS0 := Lib.hid hs
          have HTZ := Lib.hid tz
          have HRW := Lib.hid hrw
          clear hla hov hpl1 hl hd hs tz hrw hp0
          by_cases hen : l.length ≤ d
          · have HS : Hid (M.run (ps.take (k + 1)) = (Mk, nk)) := by
              show _ = _
              rw [HRS.out, HRUN.out]
              unfold Mach.pick Mach.may
              simp only [Int.toNat_natCast]
              rw [HOV.out, decide_eq_true hen]
              simp
            rw [decide_eq_true hen] at HER
            go_wp2_with fail
            refine (HER.out _).mono ?_
            rintro e w5 ⟨rfl, hm5⟩
            have HM5 := Lib.hid hm5
            clear hm5 HER
            go_wp2_with fail
            go_roundw
            case rel => exact ⟨k + 1, Mk, nk, by omega, by go_num, rfl, HS, by show _ ∧ _; omega, HRI.out.later HM5.out⟩
            case measure => simp [intOf]; omega
          · have HS : Hid (M.run (ps.take (k + 1)) = (Mk.step q, nk + 1)) := by
              show _ = _
              rw [HRS.out, HRUN.out]
              unfold Mach.pick Mach.may
              simp only [Int.toNat_natCast]
              rw [HOV.out, decide_eq_false hen, hkl9.out, decide_eq_true hp1, decide_eq_true hq1]
              rfl
            rw [decide_eq_false hen] at HER
            go_wp2_with fail
            refine (HER.out _).mono ?_
            rintro e w5 ⟨rfl, hm5⟩
            have HR5 := Lib.hid (HRI.out.later hm5)
            have HRW5 := Lib.hid (HRW.out.same (hm5.block _ tl))
            clear hm5 HER HRW HRI t0 t1 t2 tl HTZ
            obtain ⟨t0, t1, t2, tz, tl⟩ := HRW5.out.cells hql
            rw [← HL.out] at t0
            rw [← HD.out] at t1
            rw [← HS0.out] at t2
            obtain ⟨A8, c8, hb3, hmx, hrd, hap, hnw⟩ := HR5.out.ar
            have HNW := Lib.hid hnw
            clear hnw
            have u0 : w5.cell? ⟨w.heap.size, 0, none⟩ = some (.slice A8 m c8) := cell_of_row _ _ _ _ _ _ hb3
            have u1 : w5.cell? ⟨w.heap.size, 1, none⟩ = some (.int .i64 Mk.σ.c) := cell_of_row _ _ _ _ _ _ hb3
            have ul := (Array.getElem?_eq_some_iff.1 hb3).1
            obtain ⟨hst1, hst2, ⟨sx, hst3⟩, hst4, hst5⟩ := HR5.out.good.step hql (by rw [← HL.out, ← HD.out]; omega)
            have hgl : q < Mk.σ.r.sums.length := by rw [HR5.out.good.ml]; exact hql
            obtain ⟨xs9, hxs9⟩ : ∃ xs9, xs9 = (Mk.step q).σ.xs := ⟨_, rfl⟩
            obtain ⟨cn9, hcn9⟩ : ∃ cn9, cn9 = (Mk.step q).σ.c := ⟨_, rfl⟩
            obtain ⟨s9, hs9⟩ : ∃ s9, s9 = (Mk.step q).σ.r.sums.getD q 0 := ⟨_, rfl⟩
            have HX9 : Hid (xs9.length = m) := by show _ = _; rw [hxs9, hst5]; exact hmx.symm
            have HA8 : Hid (∀ a, A8 = some a → 0 < xs9.length → a.block < w5.heap.size) := fun a h1 h2 => by
              obtain ⟨a', h3, h4, _⟩ := hrd 0 (by have := HX9.out; omega)
              rw [h1] at h3
              obtain rfl := Option.some.inj h3
              exact h4
            have HST : Hid (∀ w', Made w5 w' → Calls Try.prog 75 #[.agg #[.slice A8 m c8, .int .i64 Mk.σ.c], .agg #[.slice (AF q) l.length (CF q), .int .i64 (d : Int), .int .u64 s]] w' (StepPost A8 w' xs9 cn9 (AF q) l.length (CF q) (d + 1) s9)) := fun w' hw' => by
              rw [hxs9, hcn9, hs9]
              exact Step_r (M := Mk) HPL.out (by omega) hmx HR5.out.good.xl ⟨HR5.out.good.c0, by have := HC.out; omega⟩ hgl HS0.out.symm ((hrd.later hw').more hw'.size) (RdA.more (HLA.out.later (Below.trans HR5.out.made (Below.mono hw' HR5.out.made.size))) (Nat.le_trans HR5.out.made.size hw'.size)) rfl (by omega)
            have HXS9 := Lib.hid hxs9
            have HCN9 := Lib.hid hcn9
            have HS9 := Lib.hid hs9
            have HB3 := Lib.hid hb3
            have HAP := Lib.hid hap
            have HTZ := Lib.hid tz
            have H1 := Lib.hid hst1
            have H2 := Lib.hid hst2
            have H3 := Lib.hid hst3
            have H4 := Lib.hid hst4
            have H5 := Lib.hid hst5
            have HKEEP : Hid (∀ w' : World, Made w5 w' → Hid (Made w5 w') ∧ w'.cell? ⟨w.heap.size, 0, none⟩ = some (.slice A8 m c8) ∧ w'.cell? ⟨w.heap.size, 1, none⟩ = some (.int .i64 Mk.σ.c) ∧ w'.cell? ⟨g, q * 3, none⟩ = some (.slice (AF q) l.length (CF q)) ∧ w'.cell? ⟨g, q * 3 + 1, none⟩ = some (.int .i64 (d : Int)) ∧ w'.cell? ⟨g, q * 3 + 2, none⟩ = some (.int .u64 s)) := fun w' hw' => ⟨Lib.hid hw', (hw'.cell ul).trans u0, (hw'.cell ul).trans u1, (hw'.cell tl).trans t0, (hw'.cell tl).trans t1, (hw'.cell tl).trans t2⟩
            clear hxs9 hcn9 hs9 hb3 hmx hrd hap hst1 hst2 hst3 hst4 hst5 tz
            go_upto_region 8 with fail
            go_cut [12, 13] (fun s12 s13 wx => ∃ (p12 p13 : Nat) (A9 : Option Addr) (c9 : Nat), s12 = .pointer (some ⟨p12, 0, none⟩) ∧ s13 = .pointer (some ⟨p13, 0, none⟩) ∧ Hid (Leaf w5 A8 A9 xs9 p12 p13 (.slice A9 m c9) (.int .i64 cn9) (.slice (AF q) l.length (CF q)) (.int .i64 ((d : Int) + 1)) (.int .u64 s9) wx))
            case first =>
              go_region_held3 (fun w1' => Hid (Made w5 w1') ∧ w1'.cell? ⟨w.heap.size, 0, none⟩ = some (.slice A8 m c8) ∧ w1'.cell? ⟨w.heap.size, 1, none⟩ = some (.int .i64 Mk.σ.c) ∧ w1'.cell? ⟨g, q * 3, none⟩ = some (.slice (AF q) l.length (CF q)) ∧ w1'.cell? ⟨g, q * 3 + 1, none⟩ = some (.int .i64 (d : Int)) ∧ w1'.cell? ⟨g, q * 3 + 2, none⟩ = some (.int .u64 s)) ((refine HKEEP.out _ ?_; repeat' (first | exact HMX.out | exact Made.refl _ | exact Made.drewN w5 1 | refine made_a ?_ | refine made_d ?_ | refine made_s ?_ (by omega)))) (first | (go_at_call 75; refine (HST.out _ (made_of (by assumption))).mono ?_; rintro e w6 ⟨A9, c9, hA9, he, hR9, hM9⟩; rw [HX9.out] at he; subst he; have HMX := Lib.hid (Made.trans (made_of (by assumption)) hM9); have hz6 := HMX.out.size; have HR9 := Lib.hid hR9; (first | (have rr := zeros2 (w := w5) hM9; obtain ⟨r1, r2, r3⟩ := rr; have HA9 := Lib.hid (new_sz2 (w := w5) hA9); have R1 := Lib.hid r1; have R2 := Lib.hid r2; first | (have ra := zA r1; have rb := zT r2; obtain ⟨_, _, _, _, _⟩ := ra; obtain ⟨_, _, _, _, _, _, _⟩ := rb) | (have ra := zT r1; have rb := zA r2; obtain ⟨_, _, _, _, _, _, _⟩ := ra; obtain ⟨_, _, _, _, _⟩ := rb)) | (have rr := zeros1 (w := w5) hM9; obtain ⟨r1, r3⟩ := rr; have HA9 := Lib.hid (new_sz1 (w := w5) hA9); have R1 := Lib.hid r1; first | (have ra := zA r1; obtain ⟨_, _, _, _, _⟩ := ra) | (have ra := zT r1; obtain ⟨_, _, _, _, _, _, _⟩ := ra)) | have HA9 := Lib.hid (new_sz0 (w := w5) hA9)); clear HST hM9 hR9 hA9))
              all_goals
                go_wp2_with fail
                go_meet
                first
                | exact ⟨_, _, A9, c9, rfl, rfl, leaf_e HMX.out HR9.out HA9.out⟩
                | exact ⟨_, _, A9, c9, rfl, rfl, leaf_f HMX.out HR9.out HA9.out⟩
                | exact ⟨_, _, A9, c9, rfl, rfl, leaf_c HMX.out HR9.out HA9.out HA8.out R1.out⟩
                | exact ⟨_, _, A9, c9, rfl, rfl, leaf_d HMX.out HR9.out HA9.out HA8.out R1.out⟩
                | exact ⟨_, _, A9, c9, rfl, rfl, leaf_ab HMX.out HR9.out HA9.out HA8.out R1.out R2.out (Or.inl ⟨rfl, rfl⟩)⟩
                | exact ⟨_, _, A9, c9, rfl, rfl, leaf_ab HMX.out HR9.out HA9.out HA8.out R2.out R1.out (Or.inr ⟨rfl, rfl⟩)⟩
            case rest =>
              obtain ⟨p12, p13, A9, c9, rfl, rfl, HLF⟩ := hcut
              have y0 : wc.cell? ⟨p12, 0, none⟩ = some (.slice A9 m c9) := cell_of_row _ _ _ _ _ _ HLF.out.r12
              have y1 : wc.cell? ⟨p12, 1, none⟩ = some (.int .i64 cn9) := cell_of_row _ _ _ _ _ _ HLF.out.r12
              have z0 : wc.cell? ⟨p13, 0, none⟩ = some (.slice (AF q) l.length (CF q)) := cell_of_row _ _ _ _ _ _ HLF.out.r13
              have z1 : wc.cell? ⟨p13, 1, none⟩ = some (.int .i64 ((d : Int) + 1)) := cell_of_row _ _ _ _ _ _ HLF.out.r13
              have z2 : wc.cell? ⟨p13, 2, none⟩ = some (.int .u64 s9) := cell_of_row _ _ _ _ _ _ HLF.out.r13
              have hle := HLF.out.le
              have hsz := HLF.out.made.size
              have hcb := (HLF.out.made.block _ ul).trans HB3.out
              have hcr := HRW5.out.same (HLF.out.made.block _ tl)
              obtain ⟨_, _, _, tz', tl'⟩ := hcr.cells hql
              have b0 : wc.cell? ⟨w.heap.size, 0, none⟩ = some (.slice A8 m c8) := cell_of_row _ _ _ _ _ _ hcb
              have b1 : wc.cell? ⟨w.heap.size, 1, none⟩ = some (.int .i64 Mk.σ.c) := cell_of_row _ _ _ _ _ _ hcb
              have f0 : wc.frozen? ⟨w.heap.size, 0, none⟩ = false := frozen_of_row _ _ _ _ _ hcb
              have f1 : wc.frozen? ⟨w.heap.size, 1, none⟩ = false := frozen_of_row _ _ _ _ _ hcb
              have fl := (Array.getElem?_eq_some_iff.1 hcb).1
              have g0 : wc.frozen? ⟨g, q * 3, none⟩ = false := tz' _
              have g1 : wc.frozen? ⟨g, q * 3 + 1, none⟩ = false := tz' _
              have g2 : wc.frozen? ⟨g, q * 3 + 2, none⟩ = false := tz' _
              have ng : ¬ g = w.heap.size := by omega
              have ng' : ¬ w.heap.size = g := by omega
              have n12 : ¬ p12 = w.heap.size := by omega
              have n12' : ¬ w.heap.size = p12 := by omega
              have n13 : ¬ p13 = w.heap.size := by omega
              have n13' : ¬ w.heap.size = p13 := by omega
              have HSTEP := Lib.hid (RunI.step HR5.out HNW.out HN.out hql HL.out HD.out hen HB3.out HAP.out HXS9.out HCN9.out HS9.out HLF.out)
              clear hcb hcr tz' HST HKEEP
              go_wp2_with fail
              go_roundw
              case rel => exact ⟨k + 1, Mk.step q, nk + 1, by omega, by go_num, by go_num, HS, by have := H4.out; show _ ∧ _; omega, HSTEP⟩
              case measure => simp [intOf]; omega
    · obtain rfl : k = N' := by omega
      obtain ⟨A8, c8, hb3, hmx, hrd, hap, hnw⟩ := HRI.out.ar
      have HNW := Lib.hid hnw
      clear hnw
      have hres := HRI.out.res
      have u0 : wr.cell? ⟨w.heap.size, 0, none⟩ = some (.slice A8 m c8) := cell_of_row _ _ _ _ _ _ hb3
      have u1 : wr.cell? ⟨w.heap.size, 1, none⟩ = some (.int .i64 Mk.σ.c) := cell_of_row _ _ _ _ _ _ hb3
      have ul := (Array.getElem?_eq_some_iff.1 hb3).1
      have v0 : wr.cell? ⟨w.heap.size + 1, 0, none⟩ = some (.slice none 0 0) := cell_of_row _ _ _ _ _ _ hres
      have v1 : wr.cell? ⟨w.heap.size + 1, 1, none⟩ = some (.int .i64 0) := cell_of_row _ _ _ _ _ _ hres
      have f0 : wr.frozen? ⟨w.heap.size + 1, 0, none⟩ = false := frozen_of_row _ _ _ _ _ hres
      have f1 : wr.frozen? ⟨w.heap.size + 1, 1, none⟩ = false := frozen_of_row _ _ _ _ _ hres
      have vl := (Array.getElem?_eq_some_iff.1 hres).1
      have HZ := Lib.hid (show (Try.prog.info? 68).map (·.size) = some 2 by kernel_rfl)
      have HRES := Lib.hid hres
      have HRD := Lib.hid hrd
      have HAP := Lib.hid hap
      have HMX := Lib.hid hmx
      clear hres hrd hap hb3 hmx
      go_wp2_with fail
      refine bodyPost_ret (Ref2.results_cell_tmp2 rfl _ _ (w.heap.size + 1) 68 #[.slice A8 m c8, .int .i64 Mk.σ.c] (0, 0) _ ?hp ?hg Try.underlying68 rfl HZ.out) rfl ?_
      case hp => simp [Act.put]
      case hg =>
        rw [heap_setCell_same _ _ _ _ _ _ (heap_setCell_same _ _ _ _ _ _ HRES.out)]
        simp
      have hrun : M.run ps = (Mk, nk) := by
        have := HRUN.out
        rw [List.take_of_length_le (by have := HN'.out; omega)] at this
        exact this
      have o : ∀ q : Nat, q ≠ w.heap.size + 1 → ((wr.setCell ⟨w.heap.size + 1, 0, none⟩ (.slice A8 m c8)).setCell ⟨w.heap.size + 1, 1, none⟩ (.int .i64 Mk.σ.c)).heap[q]? = wr.heap[q]? := fun q h1 => by
        rw [Cell.heap_setCell_other _ _ _ _ _ h1, Cell.heap_setCell_other _ _ _ _ _ h1]
      rw [hrun]
      refine ⟨A8, c8, G, cG, rfl, fun i hi => ?_, fun h0 => ?_, HNW.out, made_s (made_s HRI.out.made (by omega)) (by omega)⟩
      · obtain ⟨x, k1, k2, k3⟩ := HRD.out i hi
        refine ⟨x, k1, by simp only [Ref2.size_setCell]; exact k2, ?_⟩
        rw [← k3]
        exact World.cell?_of_block (o _ (by rw [add_block]; exact (HAP.out x k1).2.1))
      · obtain ⟨g, k1, k2, k3⟩ := HRI.out.rows h0
        exact ⟨g, k1, by omega, k3.same (o _ (by omega))⟩
end Go.Proofs.Ythllplocbciepaa.Cod.Seven
