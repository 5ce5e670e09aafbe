/- Package knelllaw10, walked: insert. -/
import Derived.Test.YtndpkonihcebeaaIns3
namespace Go.Proofs.Ytndpkonihcebeaa.Whl
open Go.RowKit Go.Proofs.Ytndpkonihcebeaa Go.Proofs.Ytndpkonihcebeaa.Cell Go.Proofs.Ytndpkonihcebeaa.Seq Go.Proofs.Ytndpkonihcebeaa.Num Go.Proofs.Ytndpkonihcebeaa.SetN Go.Proofs.Ytndpkonihcebeaa.Dig
set_option linter.unusedVariables false
set_option linter.unusedSimpArgs false
variable {a b bl bs L S B : Nat} {Q : World → Zone → Int → Prop}

abbrev OB (x : Bool) : Obj := .cells #[.bool x] 4 (0, 0)
/-- Behind a call of the law's: but the arena nothing that was there has turned. -/
structure Past (a b : Nat) (w w' : World) : Prop where
  os : w'.os = w.os
  tape : w'.tape = w.tape
  output : w'.output = w.output
  size : w.heap.size ≤ w'.heap.size
  block : ∀ k, k < w.heap.size → k ≠ a → k ≠ b → w'.heap[k]? = w.heap[k]?
theorem Past.trans {u v w : World} (h : Past a b u v) (k : Past a b v w) : Past a b u w :=
  ⟨k.os.trans h.os, k.tape.trans h.tape, k.output.trans h.output, Nat.le_trans h.size k.size, fun i hi h1 h2 => (k.block i (Nat.lt_of_lt_of_le hi h.size) h1 h2).trans (h.block i hi h1 h2)⟩
theorem Past.of_made {w w' : World} (h : Made w w') : Past a b w w' := ⟨h.os, h.tape, h.output, h.size, fun k hk _ _ => h.block k hk⟩
/-- The law's zone: the arena, and some boxes of its own. -/
def lz (a b : Nat) (K : Nat → Prop) : Zone := ⟨fun k => k = a ∨ k = b ∨ K k, fun _ => False⟩
theorem lz_ok {K : Nat → Prop} {w : World} (ha : a < w.heap.size) (hb : b < w.heap.size) (hK : ∀ k, K k → k < w.heap.size) : ZOk a b w (lz a b K) :=
  ⟨Or.inl rfl, Or.inr (Or.inl rfl), by rintro k (rfl | rfl | h); exact ha; exact hb; exact hK k h, fun k h => h.elim, fun k _ h => h⟩
theorem Past.of_ext {K : Nat → Prop} {w w1 w' : World} {Z' : Zone} (h : Made w w1) (hK : ∀ k, K k → w.heap.size ≤ k) (e : Ext w1 (lz a b K) w' Z') : Past a b w w' :=
  ⟨e.os.trans h.os, e.tape.trans h.tape, e.output.trans h.output, Nat.le_trans h.size e.size, fun k hk h1 h2 =>
    (e.block k (Nat.lt_of_lt_of_le hk h.size) (by rintro (g | g | g); exact h1 g; exact h2 g; have := hK k g; omega) (fun g => g)).2.2.trans (h.block k hk)⟩
/-- What the law has between its calls. -/
structure LEnv (a b bl bs L S : Nat) (w : World) : Prop where
  l : w.heap[bl]? = some (OI L)
  s : w.heap[bs]? = some (OI S)
  l1 : 1 ≤ L
  l5 : L ≤ 8
  s1 : 2 ≤ S
  s2 : S ≤ 64
  ap : bl ≠ a ∧ bl ≠ b ∧ bs ≠ a ∧ bs ≠ b
theorem LEnv.past {w w' : World} (h : LEnv a b bl bs L S w) (p : Past a b w w') : LEnv a b bl bs L S w' :=
  ⟨(p.block _ (Array.getElem?_eq_some_iff.1 h.l).1 h.ap.1 h.ap.2.1).trans h.l, (p.block _ (Array.getElem?_eq_some_iff.1 h.s).1 h.ap.2.2.1 h.ap.2.2.2).trans h.s, h.l1, h.l5, h.s1, h.s2, h.ap⟩
theorem LEnv.env {w : World} (h : LEnv a b bl bs L S w) {K : Nat → Prop} (hK : ∀ k, K k → k ≠ bl ∧ k ≠ bs) : Env w (lz a b K) bl bs L S :=
  ⟨⟨(Array.getElem?_eq_some_iff.1 h.l).1, by rintro (g | g | g); exact h.ap.1 g; exact h.ap.2.1 g; exact (hK _ g).1 rfl, fun g => g, h.l⟩,
   ⟨(Array.getElem?_eq_some_iff.1 h.s).1, by rintro (g | g | g); exact h.ap.2.2.1 g; exact h.ap.2.2.2 g; exact (hK _ g).2 rfl, fun g => g, h.s⟩, h.l1, h.l5, h.s1, h.s2⟩
/-- The law's callback: it notes that it was called. -/
theorem ended_w {n be : Nat} {w : World} {Z : Zone} {c : Int} {xs : List Int} (hbe : Z.M be) (ha : be ≠ a) (hb : be ≠ b) (h0 : w.heap[be]? = some (OB false)) :
    Takes0 a b n 64 #[.pointer (some ⟨be, 0, none⟩)] w Z c xs (fun w' Z' c' => Arena w' a b c' xs ∧ c' = c ∧ Z'.M be ∧ w'.heap[be]? = some (OB true)) := by
  refine ⟨enters_of Try.func64 (by kernel_rfl) rfl, fun w' Z' hm hz hA => ?_⟩
  have h1 : w'.heap[be]? = some (OB false) := (hm.keep be hbe ha hb).trans h0
  have hM : Z'.M be := by rw [hm.m]; exact hbe
  have c0 : w'.cell? ⟨be, 0, none⟩ = some (.bool false) := by rw [cell_of_row _ _ _ _ _ _ h1]; rfl
  have z0 : w'.frozen? ⟨be, 0, none⟩ = false := frozen_of_row _ _ _ _ _ h1
  have HR : Hid (EndsIn a b n w' Z' c (fun w' Z' c' => Arena w' a b c' xs ∧ c' = c ∧ Z'.M be ∧ w'.heap[be]? = some (OB true)) (.returned .nilFunc) (w'.setCell ⟨be, 0, none⟩ (.bool true))) := by
    have hs : (w'.setCell ⟨be, 0, none⟩ (.bool true)).heap.size = w'.heap.size := by simp [World.setCell]
    have o : ∀ k : Nat, k ≠ be → (w'.setCell ⟨be, 0, none⟩ (.bool true)).heap[k]? = w'.heap[k]? := fun k hk => Cell.heap_setCell_other _ _ _ _ _ hk
    have hA2 : Arena (w'.setCell ⟨be, 0, none⟩ (.bool true)) a b c xs := ⟨(o a ha.symm).trans hA.ha, (o b hb.symm).trans hA.hb, hA.ne, hA.c0, hA.c1⟩
    have e3 : (w'.setCell ⟨be, 0, none⟩ (.bool true)).heap[be]? = some (OB true) := by
      rw [setCell_eq_setRow _ _ _ _ _ _ _ h1, heap_setRow_same _ _ _ _ _ _ h1]; rfl
    have hq : Value.nilFunc = .nilFunc ∧ (Arena (w'.setCell ⟨be, 0, none⟩ (.bool true)) a b c xs ∧ c = c ∧ Z'.M be ∧ (w'.setCell ⟨be, 0, none⟩ (.bool true)).heap[be]? = some (OB true)) := ⟨rfl, hA2, rfl, hM, e3⟩
    refine ⟨_, Z', rfl, ⟨⟨rfl, rfl, rfl, by omega, fun k hk g1 g2 => ⟨g1, g2, o k (fun e => g1 (e ▸ hM))⟩⟩, rfl, fun k hk => o k (fun e => hz.ap _ hM (e ▸ hk))⟩, hz.later (by omega), Cnt.of hA2, ?_⟩
    cases n with
    | zero => exact hq
    | succ n => exact Or.inl hq
  clear h0 hbe hm hz hA h1 hM
  go_enter Try.func64, Try.ntmps64
  go_wp2_with fail
  go_ret
  exact HR.out
set_option maxRecDepth 100000 in
set_option maxHeartbeats 4000000 in
theorem insert_c {t lv sl : Nat} {now due : Int} {w : World} {c : Int} {xs : List Int} (hA : Arena w a b c xs) (hE : LEnv a b bl bs L S w) (hp : Placed now due L B S lv sl) (hlen : 1 + L * (1 + S) + t < xs.length) (hw : Wide xs) (hc : c + 5 < 4611686018427387904) (ht : t < 1000) :
    Calls Try.prog 31 #[.agg (WV a bl bs L B), .int .i64 (t : Int), .int .i64 now, .int .i64 due] w fun e w' => e = .returned (.bool true) ∧ Arena w' a b (insC L S lv sl xs c) (insX L S t lv sl xs) ∧ Past a b w w' := by
  have haw := (Array.getElem?_eq_some_iff.1 hA.ha).1
  have hbw := (Array.getElem?_eq_some_iff.1 hA.hb).1
  have hlw := (Array.getElem?_eq_some_iff.1 hE.l).1
  have hsw := (Array.getElem?_eq_some_iff.1 hE.s).1
  obtain ⟨w2, hw2⟩ : ∃ w2, w2 = (w.alloc (OW a bl bs L B)).alloc (OB false) := ⟨_, rfl⟩
  have m1 : Made w (w.alloc (OW a bl bs L B)) := (Made.refl _).alloc (Nat.le_refl _) _
  have m2 : Made (w.alloc (OW a bl bs L B)) w2 := by rw [hw2]; exact (Made.refl _).alloc (Nat.le_refl _) _
  have hm : Made w w2 := Made.trans m1 m2
  have hsz : w2.heap.size = w.heap.size + 1 + 1 := by rw [hw2, World.size_alloc, World.size_alloc]
  have o1 : w2.heap[w.heap.size]? = some (OW a bl bs L B) := (m2.block _ (by rw [World.size_alloc]; omega)).trans (heap_alloc_new _ _)
  have o2 : w2.heap[w.heap.size + 1]? = some (OB false) := by
    rw [hw2]
    have := heap_alloc_new (w.alloc (OW a bl bs L B)) (OB false)
    rw [World.size_alloc] at this; exact this
  have hd : Made w2 w2.drew := Made.drewN w2 1
  have hwd : Made w w2.drew := Made.trans hm hd
  have hz : ZOk a b w2.drew (lz a b (fun k => k = w.heap.size + 1)) := lz_ok (show a < w2.heap.size by omega) (show b < w2.heap.size by omega) (fun k hk => by show k < w2.heap.size; omega)
  have hE2 : LEnv a b bl bs L S w2.drew := hE.past (Past.of_made hwd)
  have hEn : Env w2.drew (lz a b (fun k => k = w.heap.size + 1)) bl bs L S := hE2.env (fun k hk => ⟨by omega, by omega⟩)
  have hbW : Blk w2.drew (lz a b (fun k => k = w.heap.size + 1)) w.heap.size (OW a bl bs L B) := ⟨by show w.heap.size < w2.heap.size; omega, by rintro (g | g | g) <;> omega, fun g => g, o1⟩
  have hba : w.heap.size + 1 ≠ a := by omega
  have hbb : w.heap.size + 1 ≠ b := by omega
  have htk := ended_w (a := a) (b := b) (n := 5) (be := w.heap.size + 1) (w := w2.drew) (Z := lz a b (fun k => k = w.heap.size + 1)) (c := insC L S lv sl xs c) (xs := insX L S t lv sl xs) (Or.inr (Or.inr rfl)) hba hbb o2
  have HI := Lib.hid (Insert_w (B := B) (hA.later hwd) hz hEn hp hlen hw hc ht htk)
  obtain ⟨c0, c1, c2, c3, c4, c5, c6⟩ := wv_cells (show Blk w2 (lz a b (fun k => k = w.heap.size + 1)) w.heap.size (OW a bl bs L B) from ⟨hbW.lt, hbW.m, hbW.t, o1⟩)
  have HB := Lib.hid hbW
  have HW := Lib.hid hw2
  have HWD := Lib.hid hwd
  have HG : Hid (∀ e w3, EndsIn a b (5 + 5) w2.drew (lz a b fun k => k = w.heap.size + 1) c (fun w' Z' c' => Arena w' a b c' (insX L S t lv sl xs) ∧ c' = insC L S lv sl xs c ∧ Z'.M (w.heap.size + 1) ∧ w'.heap[w.heap.size + 1]? = some (OB true)) e w3 →
      ∃ v, e = .returned v ∧ (w3.cell? ⟨w.heap.size, 0, none⟩ = some (.pointer (some ⟨a, 0, none⟩)) ∧ w3.cell? ⟨w.heap.size, 1, none⟩ = some (.int .i64 (L : Int)) ∧ w3.cell? ⟨w.heap.size, 2, none⟩ = some (.int .i64 (B : Int)) ∧ w3.cell? ⟨w.heap.size, 3, none⟩ = some (.int .i64 0) ∧ w3.cell? ⟨w.heap.size, 4, none⟩ = some (.func (.func 59) #[] #[]) ∧ w3.cell? ⟨w.heap.size, 5, none⟩ = some (.func (.func 60) #[] #[.pointer (some ⟨bl, 0, none⟩), .pointer (some ⟨bs, 0, none⟩)]) ∧ w3.cell? ⟨w.heap.size, 6, none⟩ = some (.func (.func 61) #[] #[.pointer (some ⟨bl, 0, none⟩), .pointer (some ⟨bs, 0, none⟩)])) ∧ Hid (Calls Try.prog 62 #[.agg (WV a bl bs L B), v] w3 fun e w4 => e = .returned (.bool true) ∧ (w4.cell? ⟨w.heap.size, 0, none⟩ = some (.pointer (some ⟨a, 0, none⟩)) ∧ w4.cell? ⟨w.heap.size, 1, none⟩ = some (.int .i64 (L : Int)) ∧ w4.cell? ⟨w.heap.size, 2, none⟩ = some (.int .i64 (B : Int)) ∧ w4.cell? ⟨w.heap.size, 3, none⟩ = some (.int .i64 0) ∧ w4.cell? ⟨w.heap.size, 4, none⟩ = some (.func (.func 59) #[] #[]) ∧ w4.cell? ⟨w.heap.size, 5, none⟩ = some (.func (.func 60) #[] #[.pointer (some ⟨bl, 0, none⟩), .pointer (some ⟨bs, 0, none⟩)]) ∧ w4.cell? ⟨w.heap.size, 6, none⟩ = some (.func (.func 61) #[] #[.pointer (some ⟨bl, 0, none⟩), .pointer (some ⟨bs, 0, none⟩)])) ∧ w4.cell? ⟨w.heap.size + 1, 0, none⟩ = some (.bool true) ∧ Hid (Arena w4 a b (insC L S lv sl xs c) (insX L S t lv sl xs) ∧ Past a b w w4))) := by
    rintro e w3 ⟨v, Z3, rfl, hw3, hz3, hc3, hd3⟩
    have hb3 := hbW.later hw3.ext
    refine ⟨v, rfl, wv_cells hb3, ?_⟩
    refine (done_c hd3 (by omega) hz3 hc3 (L : Int) (B : Int) 0 _ _ _ _ _ _).mono ?_
    rintro e w4 ⟨rfl, w0, Z0, c', Z4, ⟨hA0, rfl, hM0, he0⟩, hb0, hz0, hx⟩
    refine ⟨rfl, wv_cells (hb3.later hx), ?_, Arena.btw hz0 hA0 hb0, Past.of_ext hwd (fun k hk => by omega) (hw3.ext.trans hx)⟩
    have h4 := (hb0.keep _ hM0).trans he0
    rw [cell_of_row _ _ _ _ _ _ h4]; rfl
  have hmf := makeFunc_run
  clear hba hbb htk hA hE hp hlen hw hc haw hbw hlw hsw m1 m2 hm hsz o1 o2 hd hwd hz hE2 hEn hbW hw2
  go_enter Try.func31, Try.ntmps31
  go_wp2_with fail
  rw [← HW.out]
  go_region_with (first | (go_at_call 63; refine HI.out.mono ?_; rintro e w3 he; obtain ⟨v, rfl, hk3, HD⟩ := HG.out _ _ he; clear he) | (go_at_call 62; refine HD.out.mono ?_; rintro e w4 ⟨rfl, hk4, hbt, HF⟩))
  all_goals
    go_wp2_with fail
    go_ret
    exact ⟨rfl, HF.out.1, HF.out.2⟩
end Go.Proofs.Ytndpkonihcebeaa.Whl
