/- Package wheel: off, slots. -/
import Derived.Test.YtndpkonihcebeaaPas1
namespace Go.Proofs.Ytndpkonihcebeaa.Whl
open Go.RowKit Go.Proofs.Ytndpkonihcebeaa Go.Proofs.Ytndpkonihcebeaa.Cell Go.Proofs.Ytndpkonihcebeaa.Seq Go.Proofs.Ytndpkonihcebeaa.Num Go.Proofs.Ytndpkonihcebeaa.SetN Go.Proofs.Ytndpkonihcebeaa.Dig
set_option linter.unusedVariables false
set_option linter.unusedSimpArgs false
variable {a b B0 bl bs L S B : Nat} {Q : World → Zone → Int → Prop}

/-- A new box that the code will turn. -/
theorem plus_new {w w3 : World} {Z : Zone} {k : Nat} (hz : ZOk a b w Z) (hm : Made w w3) (hk : w.heap.size ≤ k) (hk3 : k < w3.heap.size) :
    ZOk a b w3 (plus Z fun j => j = k) ∧ Work w Z w3 (plus Z fun j => j = k) ∧ Late a b B0 w Z w3 (plus Z fun j => j = k) := by
  have hx : Ext w Z w3 (plus Z fun j => j = k) := ⟨hm.os, hm.tape, hm.output, hm.size, fun i hi h1 h2 => ⟨by rintro (h | h); exact h1 h; omega, h2, hm.block i hi⟩⟩
  have hs := hm.size
  refine ⟨⟨Or.inl hz.ma, Or.inl hz.mb, ?_, fun i hi => ?_, ?_⟩, ⟨hx, rfl, fun i hi => hm.block i (hz.tl i hi)⟩, ⟨hx, fun i hi hM _ _ => ⟨Or.inl hM, hm.block i (hz.ml i hM)⟩⟩⟩
  · rintro i (h | h)
    · have := hz.ml i h; omega
    · omega
  · have := hz.tl i hi; omega
  · rintro i (h | h) ht
    · exact hz.ap i h ht
    · have := hz.tl i ht; omega
theorem blk_plus {w : World} {Z : Zone} {k j : Nat} {o : Obj} (h : Blk w Z j o) (hne : j ≠ k) : Blk w (plus Z fun j => j = k) j o := ⟨h.lt, by rintro (g | g); exact h.m g; exact hne g, h.t, h.obj⟩
theorem Own.new {w w3 : World} {Z : Zone} {k : Nat} {s : Value} {l : List Int} (h : Own B0 w Z s l) (hm : Made w w3) : Own B0 w3 (plus Z fun j => j = k) s l :=
  ⟨ownsRow_same h.row fun g hg => hm.block g (h.lt hg), fun g hg => ⟨Or.inl (h.m g hg).1, (h.m g hg).2⟩⟩
theorem Own.made {w w3 : World} {Z : Zone} {s : Value} {l : List Int} (h : Own B0 w Z s l) (hm : Made w w3) : Own B0 w3 Z s l :=
  ⟨ownsRow_same h.row fun g hg => hm.block g (h.lt hg), fun g hg => ⟨(h.m g hg).1, (h.m g hg).2⟩⟩
set_option maxRecDepth 100000 in
set_option maxHeartbeats 2000000 in
theorem off_w {n at' first : Nat} {f : FuncId} {cap : Array Value} {w : World} {Z : Zone} {c : Int} {xs l : List Int} {s : Value} (hz : ZOk a b w Z) (ha : a < B0) (hb : b < B0) (hB0 : B0 ≤ w.heap.size) (hA : Arena w a b c xs) (hO : Own B0 w Z s l) (hl : l.length ≤ 100000) (hi : at' < xs.length) (hx : xs.getD at' 0 = (first : Int)) (hf : first ≤ 1000000) (hc : c + 1 < 4611686018427387904)
    (ht : TakesL a b B0 n f cap w Z (c + 1) (xs.set at' 0) (if first = 0 then l else l ++ [(first : Int) - 1]) Q) :
    Calls Try.prog 128 #[.agg (WV a bl bs L B), .int .i64 (at' : Int), s, .func (.func f) #[] cap] w (EndsIn a b (n + 1) w Z c Q) := by
  obtain ⟨hm, hz4, q1, q2, q3⟩ := boxes3 hz (OW a bl bs L B) (OS s) (OL f cap)
  obtain ⟨w4, hw4⟩ : ∃ w4, w4 = ((w.alloc (OW a bl bs L B)).alloc (OS s)).alloc (OL f cap) := ⟨_, rfl⟩
  have hsz : w4.heap.size = w.heap.size + 1 + 1 + 1 := by rw [hw4]; simp only [World.size_alloc]
  rw [← hw4] at hm hz4 q1 q2 q3
  have HW := Lib.hid hw4
  clear hw4
  obtain ⟨z5, k5, l5⟩ := plus_new (B0 := B0) (k := w.heap.size + 1) hz hm (by omega) (by omega)
  have p1 := blk_plus (k := w.heap.size + 1) q1 (by omega)
  have p3 := blk_plus (k := w.heap.size + 1) q3 (by omega)
  have hO5 := hO.new (k := w.heap.size + 1) hm
  have hne : s.ownBlock ≠ some (w.heap.size + 1) := fun e => by have := hO.lt e; omega
  obtain ⟨c0, _, _, _, _, _, _⟩ := wv_cells q1
  have HS : Hid (Calls Try.prog 147 #[.pointer (some ⟨a, 0, none⟩), .int .i64 (at' : Int), .int .u64 0, .func (.func 148) #[] #[.pointer (some ⟨w.heap.size + 1, 0, none⟩), .pointer (some ⟨w.heap.size + 1 + 1, 0, none⟩)]] w4 (fun e w2 => EndsIn a b (n + 1) w Z c Q e w2 ∧ ∃ v, e = .returned v)) := by
    refine (Swap_s (v := 0) (n := n) (Q := Q) (hA.later hm) z5 hc hi (enters_of Try.func148 (by kernel_rfl) rfl) ?_).mono ?_
    · intro w' Z' m1 hz1 hA1
      rw [hx]
      have hM : Z'.M (w.heap.size + 1) := by rw [m1.m]; exact Or.inr rfl
      have h0 : w'.heap[w.heap.size + 1]? = some (OS s) := (m1.keep _ (Or.inr rfl) (by omega) (by omega)).trans q2.obj
      exact off1_w hz1 ha hb hA1 (hO5.mid ha hb m1) hM (by omega) hne h0 hl (p3.later m1.ext) hf ((ht.later l5).later (Late.of_mid m1))
    · intro e w2 he
      exact ⟨he.pre k5, he.value⟩
  have hmf := makeFunc_run
  have hsv : (∃ A n c, s = .slice A n c) := by
    obtain ⟨_, g | ⟨g, cap, cur, e, _⟩⟩ := hO.row
    · exact ⟨none, 0, 0, g.1⟩
    · exact ⟨_, _, _, e⟩
  obtain ⟨A, n1, c1, rfl⟩ := hsv
  clear hz hA hO hm hz4 q1 q2 q3 hsz z5 k5 l5 p1 p3 hO5 hne ht hf hx
  go_enter Try.func128, Try.ntmps128
  go_wp2_with fail
  rw [← HW.out]
  refine HS.out.mono ?_
  rintro e w9 ⟨hg, v, rfl⟩
  go_wp2_with fail
  go_ret
  exact hg
end Go.Proofs.Ytndpkonihcebeaa.Whl
