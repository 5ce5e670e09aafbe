/- Package knelllaw10, walked: peek. -/
import Derived.Test.YtndpkonihcebeaaPek2
namespace Go.Proofs.Ytndpkonihcebeaa.Whl
open Go.RowKit Go.Proofs.Ytndpkonihcebeaa Go.Proofs.Ytndpkonihcebeaa.Cell Go.Proofs.Ytndpkonihcebeaa.Seq Go.Proofs.Ytndpkonihcebeaa.Num Go.Proofs.Ytndpkonihcebeaa.SetN Go.Proofs.Ytndpkonihcebeaa.Dig Go.Proofs.Ytndpkonihcebeaa.Bits
set_option linter.unusedVariables false
set_option linter.unusedSimpArgs false
variable {a b bl bs L S B : Nat} {Q : World → Zone → Int → Prop}

set_option maxRecDepth 100000 in
set_option maxHeartbeats 2000000 in
theorem Peek_w {n N : Nat} {now : Int} {f : FuncId} {cap : Array Value} {w : World} {Z : Zone} {c : Int} {xs : List Int} (hz : ZOk a b w Z) (hE : Env w Z bl bs L S) (hA : Arena w a b c xs) (hg : Good L S N xs) (hN : 1 + L + L * S ≤ N) (hc : c + ((L + 1 : Nat) : Int) < 4611686018427387904) (hLB : L * B ≤ 20)
    (ht : TakesI a b n f cap w Z (c + ((peekR now L B xs L 0).2 : Int)) xs (peekR now L B xs L 0).1 Q) :
    Calls Try.prog 70 #[.agg (WV a bl bs L B), .int .i64 now, .func (.func f) #[] cap] w (EndsIn a b (n + (L + 1)) w Z c Q) := by
  obtain ⟨hm, hz4, q1⟩ := boxes1 hz (OW a bl bs L B)
  obtain ⟨w4, hw4⟩ : ∃ w4, w4 = w.alloc (OW a bl bs L B) := ⟨_, rfl⟩
  rw [← hw4] at hm hz4 q1
  have HW := Lib.hid hw4
  clear hw4
  obtain ⟨c0, c1, c2, c3, c4, c5, c6⟩ := wv_cells q1
  have hh := peek_w (Q := Q) (B := B) now L 0 (n := n) (N := N) hz4 (hE.later (Ext.of_made hm)) (hA.later hm) hg hN hc (by omega) hLB (ht.later (Btw.of_made hz hm).mid)
  have HR := Lib.hid (hh.mono fun e w2 he => (show EndsIn a b (n + (L + 1)) w Z c Q e w2 ∧ ∃ v, e = .returned v from ⟨he.pre (Work.of_made hz hm), he.value⟩))
  change Hid (Calls Try.prog 108 #[.agg (WV a bl bs L B), .int .i64 now, .int .i64 0, .func (.func f) #[] cap] w4 _) at HR
  clear hh hz hE hA hg hN hc ht hm hz4 q1 hLB
  go_enter Try.func70, Try.ntmps70
  go_wp2_with fail
  rw [← HW.out]
  refine HR.out.mono ?_
  rintro e w2 ⟨hg, v, rfl⟩
  go_wp2_with fail
  go_ret
  exact hg
/-- What holds behind peek's callback. -/
def QPk (a b bp be : Nat) (xs : List Int) (c v : Int) (w : World) (Z : Zone) (c' : Int) : Prop :=
  Arena w a b c' xs ∧ c' = c ∧ Z.M bp ∧ Z.M be ∧ w.heap[bp]? = some (OI v) ∧ w.heap[be]? = some (OB true)
set_option maxHeartbeats 1000000 in
theorem told_w {n bp be : Nat} {w : World} {Z : Zone} {c v : Int} {xs : List Int} (hbp : Z.M bp) (hbe : Z.M be) (h1 : bp ≠ a) (h2 : bp ≠ b) (h3 : be ≠ a) (h4 : be ≠ b) (hne : bp ≠ be) (hp0 : w.heap[bp]? = some (OI 0)) (he0 : w.heap[be]? = some (OB false)) :
    TakesI a b n 71 #[.pointer (some ⟨bp, 0, none⟩), .pointer (some ⟨be, 0, none⟩)] w Z c xs v (QPk a b bp be xs c v) := by
  refine ⟨enters_of Try.func71 (by kernel_rfl) rfl, fun w' Z' hm hz hA => ?_⟩
  have g1 : w'.heap[bp]? = some (OI 0) := (hm.keep bp hbp h1 h2).trans hp0
  have g2 : w'.heap[be]? = some (OB false) := (hm.keep be hbe h3 h4).trans he0
  have hMp : Z'.M bp := by rw [hm.m]; exact hbp
  have hMe : Z'.M be := by rw [hm.m]; exact hbe
  have k1 : w'.cell? ⟨bp, 0, none⟩ = some (.int .i64 0) := by rw [cell_of_row _ _ _ _ _ _ g1]; rfl
  have z1 : w'.frozen? ⟨bp, 0, none⟩ = false := frozen_of_row _ _ _ _ _ g1
  have o1 : ∀ k : Nat, k ≠ bp → (w'.setCell ⟨bp, 0, none⟩ (.int .i64 v)).heap[k]? = w'.heap[k]? := fun k hk => Cell.heap_setCell_other _ _ _ _ _ hk
  have g3 : (w'.setCell ⟨bp, 0, none⟩ (.int .i64 v)).heap[be]? = some (OB false) := (o1 be (fun e => hne e.symm)).trans g2
  have g4 : (w'.setCell ⟨bp, 0, none⟩ (.int .i64 v)).heap[bp]? = some (OI v) := by
    rw [setCell_eq_setRow _ _ _ _ _ _ _ g1, heap_setRow_same _ _ _ _ _ _ g1]; rfl
  have k2 : (w'.setCell ⟨bp, 0, none⟩ (.int .i64 v)).cell? ⟨be, 0, none⟩ = some (.bool false) := by rw [cell_of_row _ _ _ _ _ _ g3]; rfl
  have z2 : (w'.setCell ⟨bp, 0, none⟩ (.int .i64 v)).frozen? ⟨be, 0, none⟩ = false := frozen_of_row _ _ _ _ _ g3
  have o2 : ∀ k : Nat, k ≠ be → ((w'.setCell ⟨bp, 0, none⟩ (.int .i64 v)).setCell ⟨be, 0, none⟩ (.bool true)).heap[k]? = (w'.setCell ⟨bp, 0, none⟩ (.int .i64 v)).heap[k]? := fun k hk => Cell.heap_setCell_other _ _ _ _ _ hk
  have g5 : ((w'.setCell ⟨bp, 0, none⟩ (.int .i64 v)).setCell ⟨be, 0, none⟩ (.bool true)).heap[be]? = some (OB true) := by
    rw [setCell_eq_setRow _ _ _ _ _ _ _ g3, heap_setRow_same _ _ _ _ _ _ g3]; rfl
  have hs : ((w'.setCell ⟨bp, 0, none⟩ (.int .i64 v)).setCell ⟨be, 0, none⟩ (.bool true)).heap.size = w'.heap.size := by simp [World.setCell]
  have HR : Hid (EndsIn a b n w' Z' c (QPk a b bp be xs c v) (.returned .nilFunc) ((w'.setCell ⟨bp, 0, none⟩ (.int .i64 v)).setCell ⟨be, 0, none⟩ (.bool true))) := by
    have sm : ∀ k : Nat, k ≠ bp → k ≠ be → ((w'.setCell ⟨bp, 0, none⟩ (.int .i64 v)).setCell ⟨be, 0, none⟩ (.bool true)).heap[k]? = w'.heap[k]? := fun k a1 a2 => (o2 k a2).trans (o1 k a1)
    have hA2 : Arena ((w'.setCell ⟨bp, 0, none⟩ (.int .i64 v)).setCell ⟨be, 0, none⟩ (.bool true)) a b c xs := ⟨(sm a h1.symm h3.symm).trans hA.ha, (sm b h2.symm h4.symm).trans hA.hb, hA.ne, hA.c0, hA.c1⟩
    have hq : QPk a b bp be xs c v ((w'.setCell ⟨bp, 0, none⟩ (.int .i64 v)).setCell ⟨be, 0, none⟩ (.bool true)) Z' c := ⟨hA2, rfl, hMp, hMe, (o2 bp hne).trans g4, g5⟩
    refine ⟨_, Z', rfl, ⟨⟨rfl, rfl, rfl, by omega, fun k hk x1 x2 => ⟨x1, x2, sm k (fun e => x1 (e ▸ hMp)) (fun e => x1 (e ▸ hMe))⟩⟩, rfl, fun k hk => sm k (fun e => hz.ap _ hMp (e ▸ hk)) (fun e => hz.ap _ hMe (e ▸ hk))⟩, hz.later (by omega), Cnt.of hA2, ?_⟩
    cases n with
    | zero => exact ⟨rfl, hq⟩
    | succ n => exact Or.inl ⟨rfl, hq⟩
  clear hp0 he0 hbp hbe hm hz hA g1 g2 g3 g4 g5 o1 o2 hMp hMe hs h1 h2 h3 h4
  go_enter Try.func71, Try.ntmps71
  go_wp2_with fail
  go_ret
  exact HR.out
set_option maxRecDepth 100000 in
set_option maxHeartbeats 8000000 in
theorem peek_c {N : Nat} {now : Int} {w : World} {c : Int} {xs : List Int} (hA : Arena w a b c xs) (hE : LEnv a b bl bs L S w) (hg : Good L S N xs) (hN : 1 + L + L * S ≤ N) (hc : c + 1000 < 4611686018427387904) (hLB : L * B ≤ 20) :
    Calls Try.prog 35 #[.agg (WV a bl bs L B), .int .i64 now] w fun e w' => e = .returned (.tuple #[.int .i64 (peekR now L B xs L 0).1, .bool true]) ∧ Arena w' a b (c + ((peekR now L B xs L 0).2 : Int)) xs ∧ Past a b w w' := by
  have haw := (Array.getElem?_eq_some_iff.1 hA.ha).1
  have hbw := (Array.getElem?_eq_some_iff.1 hA.hb).1
  have hlw := (Array.getElem?_eq_some_iff.1 hE.l).1
  have hsw := (Array.getElem?_eq_some_iff.1 hE.s).1
  have hL8 := hE.l5
  obtain ⟨w2, hw2⟩ : ∃ w2, w2 = ((w.alloc (OW a bl bs L B)).alloc (OI 0)).alloc (OB false) := ⟨_, rfl⟩
  have m1 : Made w (w.alloc (OW a bl bs L B)) := (Made.refl _).alloc (Nat.le_refl _) _
  have m2 : Made (w.alloc (OW a bl bs L B)) ((w.alloc (OW a bl bs L B)).alloc (OI 0)) := (Made.refl _).alloc (Nat.le_refl _) _
  have m3 : Made ((w.alloc (OW a bl bs L B)).alloc (OI 0)) w2 := by rw [hw2]; exact (Made.refl _).alloc (Nat.le_refl _) _
  have hm : Made w w2 := Made.trans (Made.trans m1 m2) m3
  have hsz : w2.heap.size = w.heap.size + 1 + 1 + 1 := by rw [hw2]; simp only [World.size_alloc]
  have o1 : w2.heap[w.heap.size]? = some (OW a bl bs L B) := (m3.block _ (by simp only [World.size_alloc]; omega)).trans ((m2.block _ (by rw [World.size_alloc]; omega)).trans (heap_alloc_new _ _))
  have o2 : w2.heap[w.heap.size + 1]? = some (OI 0) := by
    refine (m3.block _ (by simp only [World.size_alloc]; omega)).trans ?_
    have := heap_alloc_new (w.alloc (OW a bl bs L B)) (OI 0)
    rw [World.size_alloc] at this; exact this
  have o3 : w2.heap[w.heap.size + 1 + 1]? = some (OB false) := by
    rw [hw2]
    have := heap_alloc_new ((w.alloc (OW a bl bs L B)).alloc (OI 0)) (OB false)
    simp only [World.size_alloc] at this; exact this
  have hd : Made w2 w2.drew := Made.drewN w2 1
  have hwd : Made w w2.drew := Made.trans hm hd
  obtain ⟨K, hK⟩ : ∃ K : Nat → Prop, K = fun k => k = w.heap.size + 1 ∨ k = w.heap.size + 1 + 1 := ⟨_, rfl⟩
  have hKi : ∀ k, K k ↔ (k = w.heap.size + 1 ∨ k = w.heap.size + 1 + 1) := fun k => by rw [hK]
  have hz : ZOk a b w2.drew (lz a b K) := lz_ok (show a < w2.heap.size by omega) (show b < w2.heap.size by omega) (fun k hk => by show k < w2.heap.size; rcases (hKi k).1 hk with h | h <;> omega)
  have hE2 : LEnv a b bl bs L S w2.drew := hE.past (Past.of_made hwd)
  have hEn : Env w2.drew (lz a b K) bl bs L S := hE2.env (fun k hk => by rcases (hKi k).1 hk with h | h <;> exact ⟨by omega, by omega⟩)
  have hbW : Blk w2.drew (lz a b K) w.heap.size (OW a bl bs L B) := ⟨by show w.heap.size < w2.heap.size; omega, by rintro (g | g | g); omega; omega; rcases (hKi _).1 g with h | h <;> omega, fun g => g, o1⟩
  have hMo : (lz a b K).M (w.heap.size + 1) := Or.inr (Or.inr ((hKi _).2 (Or.inl rfl)))
  have hMe : (lz a b K).M (w.heap.size + 1 + 1) := Or.inr (Or.inr ((hKi _).2 (Or.inr rfl)))
  have htk := told_w (n := 0) (w := w2.drew) (c := c + ((peekR now L B xs L 0).2 : Int)) (v := (peekR now L B xs L 0).1) (xs := xs) hMo hMe (show w.heap.size + 1 ≠ a by omega) (show w.heap.size + 1 ≠ b by omega) (show w.heap.size + 1 + 1 ≠ a by omega) (show w.heap.size + 1 + 1 ≠ b by omega) (by omega) o2 o3
  have HI := Lib.hid (Peek_w (B := B) (N := N) hz hEn (hA.later hwd) hg hN (by omega) hLB htk)
  obtain ⟨c0, c1, c2, c3, c4, c5, c6⟩ := wv_cells (show Blk w2 (lz a b K) w.heap.size (OW a bl bs L B) from ⟨hbW.lt, hbW.m, hbW.t, o1⟩)
  have HG : Hid (∀ e w3, EndsIn a b (0 + (L + 1)) w2.drew (lz a b K) c (QPk a b (w.heap.size + 1) (w.heap.size + 1 + 1) xs (c + ((peekR now L B xs L 0).2 : Int)) (peekR now L B xs L 0).1) e w3 →
      ∃ v, e = .returned v ∧ (w3.cell? ⟨w.heap.size, 0, none⟩ = some (.pointer (some ⟨a, 0, none⟩)) ∧ w3.cell? ⟨w.heap.size, 1, none⟩ = some (.int .i64 (L : Int)) ∧ w3.cell? ⟨w.heap.size, 2, none⟩ = some (.int .i64 (B : Int)) ∧ w3.cell? ⟨w.heap.size, 3, none⟩ = some (.int .i64 0) ∧ w3.cell? ⟨w.heap.size, 4, none⟩ = some (.func (.func 59) #[] #[]) ∧ w3.cell? ⟨w.heap.size, 5, none⟩ = some (.func (.func 60) #[] #[.pointer (some ⟨bl, 0, none⟩), .pointer (some ⟨bs, 0, none⟩)]) ∧ w3.cell? ⟨w.heap.size, 6, none⟩ = some (.func (.func 61) #[] #[.pointer (some ⟨bl, 0, none⟩), .pointer (some ⟨bs, 0, none⟩)])) ∧ Hid (Calls Try.prog 62 #[.agg (WV a bl bs L B), v] w3 fun e w4 => e = .returned (.bool true) ∧ (w4.cell? ⟨w.heap.size, 0, none⟩ = some (.pointer (some ⟨a, 0, none⟩)) ∧ w4.cell? ⟨w.heap.size, 1, none⟩ = some (.int .i64 (L : Int)) ∧ w4.cell? ⟨w.heap.size, 2, none⟩ = some (.int .i64 (B : Int)) ∧ w4.cell? ⟨w.heap.size, 3, none⟩ = some (.int .i64 0) ∧ w4.cell? ⟨w.heap.size, 4, none⟩ = some (.func (.func 59) #[] #[]) ∧ w4.cell? ⟨w.heap.size, 5, none⟩ = some (.func (.func 60) #[] #[.pointer (some ⟨bl, 0, none⟩), .pointer (some ⟨bs, 0, none⟩)]) ∧ w4.cell? ⟨w.heap.size, 6, none⟩ = some (.func (.func 61) #[] #[.pointer (some ⟨bl, 0, none⟩), .pointer (some ⟨bs, 0, none⟩)])) ∧ Hid (w4.cell? ⟨w.heap.size + 1, 0, none⟩ = some (.int .i64 (peekR now L B xs L 0).1) ∧ w4.cell? ⟨w.heap.size + 1 + 1, 0, none⟩ = some (.bool true) ∧ Arena w4 a b (c + ((peekR now L B xs L 0).2 : Int)) xs ∧ Past a b w w4))) := by
    rintro e w3 ⟨v, Z3, rfl, hw3, hz3, hc3, hd3⟩
    have hb3 := hbW.later hw3.ext
    refine ⟨v, rfl, wv_cells hb3, ?_⟩
    refine (done_c hd3 (by omega) hz3 hc3 (L : Int) (B : Int) 0 _ _ _ _ _ _).mono ?_
    rintro e w4 ⟨rfl, w0, Z0, c', Z4, ⟨hA0, rfl, hM0, hM1, hv0, he0⟩, hb0, hz0, hx⟩
    have h4 := (hb0.keep _ hM1).trans he0
    have h5 := (hb0.keep _ hM0).trans hv0
    exact ⟨rfl, wv_cells (hb3.later hx), by rw [cell_of_row _ _ _ _ _ _ h5]; rfl, by rw [cell_of_row _ _ _ _ _ _ h4]; rfl, Arena.btw hz0 hA0 hb0, Past.of_ext hwd (fun k hk => by rcases (hKi k).1 hk with h | h <;> omega) (hw3.ext.trans hx)⟩
  have HW := Lib.hid hw2
  have hmf := makeFunc_run
  have e1 := alloc_set (w.alloc (OW a bl bs L B)) (.int .i64 0) (.int .i64 0) 3
  rw [World.size_alloc] at e1
  have E1 := Lib.hid e1
  generalize (peekR now L B xs L 0).1 = V at *
  generalize (peekR now L B xs L 0).2 = NS at *
  clear hA hE hg hN hc haw hbw hlw hsw hL8 m1 m2 m3 hm hsz o1 o2 o3 hd hwd hKi hK hz hE2 hEn hbW hMo hMe htk hw2 hLB e1
  go_enter Try.func35, Try.ntmps35
  go_wp2_with fail
  first | rw [E1.out, ← HW.out] | rw [← HW.out]
  go_region_held3 (fun w5 => w5.cell? ⟨w.heap.size, 0, none⟩ = some (.pointer (some ⟨a, 0, none⟩)) ∧ w5.cell? ⟨w.heap.size, 1, none⟩ = some (.int .i64 (L : Int)) ∧ w5.cell? ⟨w.heap.size, 2, none⟩ = some (.int .i64 (B : Int)) ∧ w5.cell? ⟨w.heap.size, 3, none⟩ = some (.int .i64 0) ∧ w5.cell? ⟨w.heap.size, 4, none⟩ = some (.func (.func 59) #[] #[]) ∧ w5.cell? ⟨w.heap.size, 5, none⟩ = some (.func (.func 60) #[] #[.pointer (some ⟨bl, 0, none⟩), .pointer (some ⟨bs, 0, none⟩)]) ∧ w5.cell? ⟨w.heap.size, 6, none⟩ = some (.func (.func 61) #[] #[.pointer (some ⟨bl, 0, none⟩), .pointer (some ⟨bs, 0, none⟩)])) (first | assumption | (refine ⟨?_, ?_, ?_, ?_, ?_, ?_, ?_⟩ <;> first | assumption | simpa using c0 | simpa using c1 | simpa using c2 | simpa using c3 | simpa using c4 | simpa using c5 | simpa using c6)) (first | (go_at_call 70; refine HI.out.mono ?_; rintro e w3 he; obtain ⟨v, rfl, hk3, HD⟩ := HG.out _ _ he; clear he) | (go_at_call 62; refine HD.out.mono ?_; rintro e w4 ⟨rfl, hk4, HF⟩))
  all_goals
    obtain ⟨k1, k2, k3, k4⟩ := HF.out
    have K3 := Lib.hid k3
    have K4 := Lib.hid k4
    clear k3 k4 HF hk4 HI HG HD c0 c1 c2 c3 c4 c5 c6
    go_wp2_with fail
    go_region_held3 (fun w5 => w5.cell? ⟨w.heap.size + 1, 0, none⟩ = some (.int .i64 V) ∧ w5.cell? ⟨w.heap.size + 1 + 1, 0, none⟩ = some (.bool true)) (first | assumption | (refine ⟨?_, ?_⟩ <;> first | assumption | simpa using k1 | simpa using k2)) (fail)
    go_wp2_with fail
    go_ret2
    exact ⟨rfl, K3.out.later (Made.drewN _ 1), K4.out.trans (Past.of_made (Made.drewN _ 1))⟩
end Go.Proofs.Ytndpkonihcebeaa.Whl
