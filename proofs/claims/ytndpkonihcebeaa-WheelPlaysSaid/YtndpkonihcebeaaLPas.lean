/- Package knelllaw10, walked: pass. -/
import Derived.Test.YtndpkonihcebeaaCbk2
namespace Go.Proofs.Ytndpkonihcebeaa.Whl
open Go.RowKit Go.Proofs.Ytndpkonihcebeaa Go.Proofs.Ytndpkonihcebeaa.Cell Go.Proofs.Ytndpkonihcebeaa.Seq Go.Proofs.Ytndpkonihcebeaa.Num Go.Proofs.Ytndpkonihcebeaa.SetN Go.Proofs.Ytndpkonihcebeaa.Dig Go.Proofs.Ytndpkonihcebeaa.Bits
set_option linter.unusedVariables false
set_option linter.unusedSimpArgs false
variable {a b B0 bl bs L S B : Nat} {Q : World → Zone → Int → Prop} {cr : Nat → Option (Nat × Nat)} {fr to' : Int}

set_option maxRecDepth 100000 in
set_option maxHeartbeats 2000000 in
theorem Pass_w (hcr : Crs fr to' B cr) {n N : Nat} {f : FuncId} {cap : Array Value} {w : World} {Z : Zone} {c : Int} {xs : List Int} (hz : ZOk a b w Z) (ha : a < B0) (hb : b < B0) (hB0 : B0 ≤ w.heap.size) (hE : Env w Z bl bs L S) (hA : Arena w a b c xs) (hg : Good L S N xs) (hN : 1 + L + L * S ≤ N) (hc : c + ((L * 66 + 1 : Nat) : Int) < 4611686018427387904)
    (ht : TakesL a b B0 n f cap w Z (passR cr L S L 0 (xs, [], c)).2.2 (passR cr L S L 0 (xs, [], c)).1 (passR cr L S L 0 (xs, [], c)).2.1 Q) :
    Calls Try.prog 66 #[.agg (WV a bl bs L B), .int .i64 fr, .int .i64 to', .func (.func f) #[] cap] w (EndsIn a b (n + (L * 66 + 1)) w Z c Q) := by
  obtain ⟨hm, hz4, q1⟩ := boxes1 hz (OW a bl bs L B)
  obtain ⟨w4, hw4⟩ : ∃ w4, w4 = w.alloc (OW a bl bs L B) := ⟨_, rfl⟩
  rw [← hw4] at hm hz4 q1
  have HW := Lib.hid hw4
  clear hw4
  obtain ⟨c0, c1, c2, c3, c4, c5, c6⟩ := wv_cells q1
  have hL8 := hE.l5
  have hh := pass_w (Q := Q) (B := B) hcr L 0 (n := n) (N := N) (l := []) (s := .slice none 0 0) hz4 ha hb (Nat.le_trans hB0 hm.size) (hE.later (Ext.of_made hm)) (hA.later hm) (Own.nil _ _) (by simp; omega) hg hN hc (by omega) (ht.later (Late.of_made hz hm))
  have HR := Lib.hid (hh.mono fun e w2 he => (show EndsIn a b (n + (L * 66 + 1)) w Z c Q e w2 ∧ ∃ v, e = .returned v from ⟨he.pre (Work.of_made hz hm), he.value⟩))
  change Hid (Calls Try.prog 106 #[.agg (WV a bl bs L B), .int .i64 fr, .int .i64 to', .int .i64 0, .slice none 0 0, .func (.func f) #[] cap] w4 _) at HR
  clear hh hz ha hb hB0 hE hA hg hN hc ht hm hz4 q1 hL8
  go_enter Try.func66, Try.ntmps66
  go_wp2_with fail
  rw [← HW.out]
  refine HR.out.mono ?_
  rintro e w2 ⟨hg, v, rfl⟩
  go_wp2_with fail
  go_ret
  exact hg
theorem ret2v {v v' x x' : Value} (h : v = v') (h2 : x = x') : Ending.returned (.tuple #[v, x]) = .returned (.tuple #[v', x']) := by rw [h, h2]
set_option maxRecDepth 100000 in
set_option maxHeartbeats 8000000 in
theorem pass_c (hcr : Crs fr to' B cr) {N : Nat} {w : World} {c : Int} {xs : List Int} {fs : List Nat} {cs : List (List Nat)} (hA : Arena w a b c xs) (hE : LEnv a b bl bs L S w) (hg : Good L S N xs) (hN : 1 + L + L * S ≤ N) (hc : c + 1000 < 4611686018427387904) (hxl : N ≤ 1048576)
    (hfs : (passR cr L S L 0 (xs, [], c)).2.1 = fs.map fun t : Nat => (t : Int)) (hrl : (passR cr L S L 0 (xs, [], c)).1.length = N) (hl : fs.length = cs.length) (hcs : ∀ (k f : Nat) (ch : List Nat), fs[k]? = some f → cs[k]? = some ch → f < 100 ∧ Chn L S (passR cr L S L 0 (xs, [], c)).1 ch (f + 1)) (htot : cs.flatten.length ≤ 90) (hcl : cs.length ≤ 100) :
    Calls Try.prog 33 #[.agg (WV a bl bs L B), .int .i64 fr, .int .i64 to'] w fun e w' => ∃ v, e = .returned (.tuple #[v, .bool true]) ∧ Arena w' a b (passR cr L S L 0 (xs, [], c)).2.2 (passR cr L S L 0 (xs, [], c)).1 ∧ Past a b w w' ∧ w'.ownsRow w.heap.size 3 1 v cs.flatten.length (vals cs.flatten) := by
  have haw := (Array.getElem?_eq_some_iff.1 hA.ha).1
  have hbw := (Array.getElem?_eq_some_iff.1 hA.hb).1
  have hlw := (Array.getElem?_eq_some_iff.1 hE.l).1
  have hsw := (Array.getElem?_eq_some_iff.1 hE.s).1
  have hL8 := hE.l5
  obtain ⟨w2, hw2⟩ : ∃ w2, w2 = ((w.alloc (OW a bl bs L B)).alloc (OS (.slice none 0 0))).alloc (OB false) := ⟨_, rfl⟩
  have m1 : Made w (w.alloc (OW a bl bs L B)) := (Made.refl _).alloc (Nat.le_refl _) _
  have m2 : Made (w.alloc (OW a bl bs L B)) ((w.alloc (OW a bl bs L B)).alloc (OS (.slice none 0 0))) := (Made.refl _).alloc (Nat.le_refl _) _
  have m3 : Made ((w.alloc (OW a bl bs L B)).alloc (OS (.slice none 0 0))) w2 := by rw [hw2]; exact (Made.refl _).alloc (Nat.le_refl _) _
  have hm : Made w w2 := Made.trans (Made.trans m1 m2) m3
  have hsz : w2.heap.size = w.heap.size + 1 + 1 + 1 := by rw [hw2]; simp only [World.size_alloc]
  have o1 : w2.heap[w.heap.size]? = some (OW a bl bs L B) := (m3.block _ (by simp only [World.size_alloc]; omega)).trans ((m2.block _ (by rw [World.size_alloc]; omega)).trans (heap_alloc_new _ _))
  have o2 : w2.heap[w.heap.size + 1]? = some (OS (.slice none 0 0)) := by
    refine (m3.block _ (by simp only [World.size_alloc]; omega)).trans ?_
    have := heap_alloc_new (w.alloc (OW a bl bs L B)) (OS (.slice none 0 0))
    rw [World.size_alloc] at this; exact this
  have o3 : w2.heap[w.heap.size + 1 + 1]? = some (OB false) := by
    rw [hw2]
    have := heap_alloc_new ((w.alloc (OW a bl bs L B)).alloc (OS (.slice none 0 0))) (OB false)
    simp only [World.size_alloc] at this; exact this
  have hd : Made w2 w2.drew := Made.drewN w2 1
  have hwd : Made w w2.drew := Made.trans hm hd
  obtain ⟨K, hK⟩ : ∃ K : Nat → Prop, K = fun k => k = w.heap.size + 1 ∨ k = w.heap.size + 1 + 1 := ⟨_, rfl⟩
  have hKi : ∀ k, K k ↔ (k = w.heap.size + 1 ∨ k = w.heap.size + 1 + 1) := fun k => by rw [hK]
  have hz : ZOk a b w2.drew (lz a b K) := lz_ok (show a < w2.heap.size by omega) (show b < w2.heap.size by omega) (fun k hk => by show k < w2.heap.size; rcases (hKi k).1 hk with h | h <;> omega)
  have hE2 : LEnv a b bl bs L S w2.drew := hE.past (Past.of_made hwd)
  have hEn : Env w2.drew (lz a b K) bl bs L S := hE2.env (fun k hk => by rcases (hKi k).1 hk with h | h <;> exact ⟨by omega, by omega⟩)
  have hbW : Blk w2.drew (lz a b K) w.heap.size (OW a bl bs L B) := ⟨by show w.heap.size < w2.heap.size; omega, by rintro (g | g | g); omega; omega; rcases (hKi _).1 g with h | h <;> omega, fun g => g, o1⟩
  have hMo : (lz a b K).M (w.heap.size + 1) := Or.inr (Or.inr ((hKi _).2 (Or.inl rfl)))
  have hMe : (lz a b K).M (w.heap.size + 1 + 1) := Or.inr (Or.inr ((hKi _).2 (Or.inr rfl)))
  have hne : w.heap.size + 1 + 1 ≠ a ∧ w.heap.size + 1 + 1 ≠ b ∧ w.heap.size + 1 ≠ a ∧ w.heap.size + 1 ≠ b ∧ w.heap.size + 1 + 1 ≠ w.heap.size + 1 := by omega
  have htk : TakesL a b (w.heap.size + 1 + 1 + 1) 0 67 #[.pointer (some ⟨w.heap.size + 1 + 1, 0, none⟩), .pointer (some ⟨w.heap.size, 0, none⟩), .pointer (some ⟨w.heap.size + 1, 0, none⟩)] w2.drew (lz a b K) (passR cr L S L 0 (xs, [], c)).2.2 (passR cr L S L 0 (xs, [], c)).1 (passR cr L S L 0 (xs, [], c)).2.1 (QCb a b (w.heap.size + 1 + 1 + 1) (w.heap.size + 1 + 1) (w.heap.size + 1) (passR cr L S L 0 (xs, [], c)).1 (passR cr L S L 0 (xs, [], c)).2.2 cs.flatten) := by
    refine ⟨enters_of Try.func67 (by kernel_rfl) rfl, fun w' Z' s hla hz' hA' hO' => ?_⟩
    have k1 := hla.keep (w.heap.size + 1) (by omega) hMo (by omega) (by omega)
    have k2 := hla.keep (w.heap.size + 1 + 1) (by omega) hMe (by omega) (by omega)
    rw [hfs] at hO'
    exact gather_w (x0 := false) hz' (by omega) (by omega) k2.1 k1.1 (by omega) (by omega) hne hA' (k2.2.trans o3) (k1.2.trans o2) (hbW.later hla.ext) (hEn.later hla.ext) hO' (by have := hla.ext.size; have : w2.drew.heap.size = w2.heap.size := rfl; omega) hl hcs htot (by rw [hrl]; exact hxl) hcl
  have HI := Lib.hid (Pass_w (B := B) hcr (N := N) hz (show a < w.heap.size + 1 + 1 + 1 by omega) (show b < w.heap.size + 1 + 1 + 1 by omega) (show w.heap.size + 1 + 1 + 1 ≤ w2.heap.size by omega) hEn (hA.later hwd) hg hN (by omega) htk)
  obtain ⟨c0, c1, c2, c3, c4, c5, c6⟩ := wv_cells (show Blk w2 (lz a b K) w.heap.size (OW a bl bs L B) from ⟨hbW.lt, hbW.m, hbW.t, o1⟩)
  have HG : Hid (∀ e w3, EndsIn a b (0 + (L * 66 + 1)) w2.drew (lz a b K) c (QCb a b (w.heap.size + 1 + 1 + 1) (w.heap.size + 1 + 1) (w.heap.size + 1) (passR cr L S L 0 (xs, [], c)).1 (passR cr L S L 0 (xs, [], c)).2.2 cs.flatten) e w3 →
      ∃ v, e = .returned v ∧ (w3.cell? ⟨w.heap.size, 0, none⟩ = some (.pointer (some ⟨a, 0, none⟩)) ∧ w3.cell? ⟨w.heap.size, 1, none⟩ = some (.int .i64 (L : Int)) ∧ w3.cell? ⟨w.heap.size, 2, none⟩ = some (.int .i64 (B : Int)) ∧ w3.cell? ⟨w.heap.size, 3, none⟩ = some (.int .i64 0) ∧ w3.cell? ⟨w.heap.size, 4, none⟩ = some (.func (.func 59) #[] #[]) ∧ w3.cell? ⟨w.heap.size, 5, none⟩ = some (.func (.func 60) #[] #[.pointer (some ⟨bl, 0, none⟩), .pointer (some ⟨bs, 0, none⟩)]) ∧ w3.cell? ⟨w.heap.size, 6, none⟩ = some (.func (.func 61) #[] #[.pointer (some ⟨bl, 0, none⟩), .pointer (some ⟨bs, 0, none⟩)])) ∧ Hid (Calls Try.prog 62 #[.agg (WV a bl bs L B), v] w3 fun e w4 => e = .returned (.bool true) ∧ (w4.cell? ⟨w.heap.size, 0, none⟩ = some (.pointer (some ⟨a, 0, none⟩)) ∧ w4.cell? ⟨w.heap.size, 1, none⟩ = some (.int .i64 (L : Int)) ∧ w4.cell? ⟨w.heap.size, 2, none⟩ = some (.int .i64 (B : Int)) ∧ w4.cell? ⟨w.heap.size, 3, none⟩ = some (.int .i64 0) ∧ w4.cell? ⟨w.heap.size, 4, none⟩ = some (.func (.func 59) #[] #[]) ∧ w4.cell? ⟨w.heap.size, 5, none⟩ = some (.func (.func 60) #[] #[.pointer (some ⟨bl, 0, none⟩), .pointer (some ⟨bs, 0, none⟩)]) ∧ w4.cell? ⟨w.heap.size, 6, none⟩ = some (.func (.func 61) #[] #[.pointer (some ⟨bl, 0, none⟩), .pointer (some ⟨bs, 0, none⟩)])) ∧ Hid (∃ v, w4.cell? ⟨w.heap.size + 1, 0, none⟩ = some v ∧ w4.cell? ⟨w.heap.size + 1 + 1, 0, none⟩ = some (.bool true) ∧ Arena w4 a b (passR cr L S L 0 (xs, [], c)).2.2 (passR cr L S L 0 (xs, [], c)).1 ∧ Past a b w w4 ∧ w4.ownsRow w.heap.size 3 1 v cs.flatten.length (vals cs.flatten)))) := by
    rintro e w3 ⟨v, Z3, rfl, hw3, hz3, hc3, hd3⟩
    have hb3 := hbW.later hw3.ext
    refine ⟨v, rfl, wv_cells hb3, ?_⟩
    refine (done_c hd3 (by omega) hz3 hc3 (L : Int) (B : Int) 0 _ _ _ _ _ _).mono ?_
    rintro e w4 ⟨rfl, w0, Z0, c', Z4, ⟨hA0, rfl, hM0, hM1, he0, vv, hv0, hO0⟩, hb0, hz0, hx⟩
    have h4 := (hb0.keep _ hM0).trans he0
    have h5 := (hb0.keep _ hM1).trans hv0
    refine ⟨rfl, wv_cells (hb3.later hx), vv, by rw [cell_of_row _ _ _ _ _ _ h5]; rfl, by rw [cell_of_row _ _ _ _ _ _ h4]; rfl, Arena.btw hz0 hA0 hb0, Past.of_ext hwd (fun k hk => by rcases (hKi k).1 hk with h | h <;> omega) (hw3.ext.trans hx), ?_⟩
    have hr := ownsRow_same hO0.row (fun g hg => hb0.keep g (hO0.m g hg).1)
    rw [vals_eq, List.length_map] at hr
    obtain ⟨h1, h0 | ⟨g', cap, cur, e, h2, h3⟩⟩ := hr
    · exact ⟨h1, Or.inl h0⟩
    · exact ⟨h1, Or.inr ⟨g', cap, cur, e, by omega, h3⟩⟩
  have HW := Lib.hid hw2
  have hmf := makeFunc_run
  clear hA hE hg hN hc hxl hfs hrl hl hcs htot hcl haw hbw hlw hsw hL8 m1 m2 m3 hm hsz o1 o2 o3 hd hwd hKi hK hz hE2 hEn hbW hMo hMe hne htk hw2
  go_enter Try.func33, Try.ntmps33
  go_wp2_with fail
  rw [← HW.out]
  go_region_held3 (fun w5 => w5.cell? ⟨w.heap.size, 0, none⟩ = some (.pointer (some ⟨a, 0, none⟩)) ∧ w5.cell? ⟨w.heap.size, 1, none⟩ = some (.int .i64 (L : Int)) ∧ w5.cell? ⟨w.heap.size, 2, none⟩ = some (.int .i64 (B : Int)) ∧ w5.cell? ⟨w.heap.size, 3, none⟩ = some (.int .i64 0) ∧ w5.cell? ⟨w.heap.size, 4, none⟩ = some (.func (.func 59) #[] #[]) ∧ w5.cell? ⟨w.heap.size, 5, none⟩ = some (.func (.func 60) #[] #[.pointer (some ⟨bl, 0, none⟩), .pointer (some ⟨bs, 0, none⟩)]) ∧ w5.cell? ⟨w.heap.size, 6, none⟩ = some (.func (.func 61) #[] #[.pointer (some ⟨bl, 0, none⟩), .pointer (some ⟨bs, 0, none⟩)])) (first | assumption | (refine ⟨?_, ?_, ?_, ?_, ?_, ?_, ?_⟩ <;> first | assumption | simpa using c0 | simpa using c1 | simpa using c2 | simpa using c3 | simpa using c4 | simpa using c5 | simpa using c6)) (first | (go_at_call 66; refine HI.out.mono ?_; rintro e w3 he; obtain ⟨v, rfl, hk3, HD⟩ := HG.out _ _ he; clear he) | (go_at_call 62; refine HD.out.mono ?_; rintro e w4 ⟨rfl, hk4, HF⟩))
  all_goals
    obtain ⟨vv, k1, k2, k3, k4, k5⟩ := HF.out
    have K3 := Lib.hid k3
    have K4 := Lib.hid k4
    have K5 := Lib.hid k5
    clear k3 k4 k5 HF hk4 HI HG HD c0 c1 c2 c3 c4 c5 c6
    go_wp2_with fail
    go_region_held3 (fun w5 => w5.cell? ⟨w.heap.size + 1, 0, none⟩ = some vv ∧ w5.cell? ⟨w.heap.size + 1 + 1, 0, none⟩ = some (.bool true)) (first | assumption | (refine ⟨?_, ?_⟩ <;> first | assumption | simpa using k1 | simpa using k2)) (fail)
    go_wp2_with fail
    go_ret2
    exact ⟨vv, rfl, K3.out.later (Made.drewN _ 1), K4.out.trans (Past.of_made (Made.drewN _ 1)), K5.out⟩
end Go.Proofs.Ytndpkonihcebeaa.Whl
