/- Package wheel: pass. -/
import Derived.Test.YtndpkonihcebeaaPasB
import Derived.Test.YtndpkonihcebeaaIns2
namespace Go.Proofs.Ytndpkonihcebeaa.Whl
open Go.RowKit Go.Proofs.Ytndpkonihcebeaa Go.Proofs.Ytndpkonihcebeaa.Cell Go.Proofs.Ytndpkonihcebeaa.Seq Go.Proofs.Ytndpkonihcebeaa.Num Go.Proofs.Ytndpkonihcebeaa.SetN Go.Proofs.Ytndpkonihcebeaa.Dig Go.Proofs.Ytndpkonihcebeaa.Bits
set_option linter.unusedVariables false
set_option linter.unusedSimpArgs false
variable {a b B0 bl bs L S B : Nat} {Q : World → Zone → Int → Prop}

/-- Which slots of which levels are passed. -/
structure Crs (fr to' : Int) (B : Nat) (cr : Nat → Option (Nat × Nat)) : Prop where
  no : ∀ lv : Nat, cr lv = none → crossOf fr to' lv B = (0, 0, false)
  yes : ∀ (lv lo hi : Nat), cr lv = some (lo, hi) → crossOf fr to' lv B = ((lo : Int), (hi : Int), true) ∧ lo ≤ 64 ∧ hi ≤ 63
def PassOK (a b B0 bl bs L S B : Nat) (Q : World → Zone → Int → Prop) (cr : Nat → Option (Nat × Nat)) (fr to' : Int) (d lv : Nat) : Prop :=
  ∀ {n N : Nat} {f : FuncId} {cap : Array Value} {w : World} {Z : Zone} {c : Int} {xs l : List Int} {s : Value}, ZOk a b w Z → a < B0 → b < B0 → B0 ≤ w.heap.size → Env w Z bl bs L S → Arena w a b c xs → Own B0 w Z s l → l.length + d * 64 + 1 ≤ 90000 → Good L S N xs → 1 + L + L * S ≤ N → c + ((d * 66 + 1 : Nat) : Int) < 4611686018427387904 → lv + d = L →
    TakesL a b B0 n f cap w Z (passR cr L S d lv (xs, l, c)).2.2 (passR cr L S d lv (xs, l, c)).1 (passR cr L S d lv (xs, l, c)).2.1 Q →
    Calls Try.prog 106 #[.agg (WV a bl bs L B), .int .i64 fr, .int .i64 to', .int .i64 (lv : Int), s, .func (.func f) #[] cap] w (EndsIn a b (n + (d * 66 + 1)) w Z c Q)
set_option maxRecDepth 100000 in
set_option maxHeartbeats 2000000 in
/-- On to the next level. -/
theorem pass1_w {n lv bw b1 b2 bv bt : Nat} {fr to' : Int} {f : FuncId} {cap : Array Value} {w : World} {Z : Zone} {c : Int} {s : Value} (hsh : ∃ A n c, s = .slice A n c) (hlv : lv ≤ 1000)
    (h0 : Blk w Z bw (OW a bl bs L B)) (h1 : Blk w Z b1 (OI fr)) (h2 : Blk w Z b2 (OI to')) (h3 : Blk w Z bv (OI lv)) (h4 : Blk w Z bt (OL f cap))
    (hr : Calls Try.prog 106 #[.agg (WV a bl bs L B), .int .i64 fr, .int .i64 to', .int .i64 ((lv : Int) + 1), s, .func (.func f) #[] cap] w (EndsIn a b n w Z c Q)) :
    Calls Try.prog 127 #[s, .pointer (some ⟨bw, 0, none⟩), .pointer (some ⟨b1, 0, none⟩), .pointer (some ⟨b2, 0, none⟩), .pointer (some ⟨bv, 0, none⟩), .pointer (some ⟨bt, 0, none⟩)] w (EndsIn a b n w Z c Q) := by
  obtain ⟨c0, c1, c2, c3, c4, c5, c6⟩ := wv_cells h0
  have d1 := h1.cell
  have d2 := h2.cell
  have d3 := h3.cell
  have d4 := h4.cell
  have HR := Lib.hid (hr.mono fun e w2 he => (show EndsIn a b n w Z c Q e w2 ∧ ∃ v, e = .returned v from ⟨he, he.value⟩))
  obtain ⟨As, ns, cs, rfl⟩ := hsh
  clear h0 h1 h2 h3 h4 hr
  go_enter Try.func127, Try.ntmps127
  go_wp2_with fail
  refine HR.out.mono ?_
  rintro e w2 ⟨hg, v, rfl⟩
  go_wp2_with fail
  go_ret
  exact hg
set_option maxRecDepth 100000 in
set_option maxHeartbeats 8000000 in
/-- pass up to where the level's slots are known: told of what is done there. -/
theorem pass_pre {m lv lo hi : Nat} {any : Bool} {fr to' : Int} {f : FuncId} {cap : Array Value} {w : World} {Z : Zone} {c : Int} {xs l : List Int} {s : Value} (hz : ZOk a b w Z) (hE : Env w Z bl bs L S) (hA : Arena w a b c xs) (hO : Own B0 w Z s l) (hen' : Enters Try.prog f) (hll : lv ≤ L) (hll2 : 1 + lv < xs.length)
    (hcr : crossOf fr to' lv B = ((lo : Int), (hi : Int), any)) (hc : c + 1 < 4611686018427387904)
    (hno : any = false → ∀ w1, Made w w1 → Calls Try.prog f (#[s] ++ cap) w1 (EndsIn a b m w Z c Q))
    (hover : any = true → lv = L → ∀ w1, Made w w1 → Calls Try.prog 128 #[.agg (WV a bl bs L B), .int .i64 0, s, .func (.func f) #[] cap] w1 (EndsIn a b m w Z c Q))
    (hload : any = true → lv < L → ∀ w1 b1 b2 bu bf bw bv bfr bto bt, Made w w1 → Blk w1 Z b1 (OI lo) → Blk w1 Z b2 (OI hi) → Blk w1 Z bf (OS s) → Blk w1 Z bw (OW a bl bs L B) → Blk w1 Z bv (OI lv) → Blk w1 Z bfr (OI fr) → Blk w1 Z bto (OI to') → Blk w1 Z bt (OL f cap) → Blk w1 Z bu (OL 127 #[.pointer (some ⟨bw, 0, none⟩), .pointer (some ⟨bfr, 0, none⟩), .pointer (some ⟨bto, 0, none⟩), .pointer (some ⟨bv, 0, none⟩), .pointer (some ⟨bt, 0, none⟩)]) →
      Calls Try.prog 42 #[.pointer (some ⟨a, 0, none⟩), .int .i64 ((1 + lv : Nat) : Int), .func (.func 129) #[] #[.pointer (some ⟨b1, 0, none⟩), .pointer (some ⟨b2, 0, none⟩), .pointer (some ⟨bu, 0, none⟩), .pointer (some ⟨bf, 0, none⟩), .pointer (some ⟨bw, 0, none⟩), .pointer (some ⟨bv, 0, none⟩)]] w1 (EndsIn a b m w1 Z c Q)) :
    Calls Try.prog 106 #[.agg (WV a bl bs L B), .int .i64 fr, .int .i64 to', .int .i64 (lv : Int), s, .func (.func f) #[] cap] w (EndsIn a b m w Z c Q) := by
  obtain ⟨hm, hz4, q1, q2, q3, q4, q5, q6⟩ := boxes6 hz (OW a bl bs L B) (OI fr) (OI to') (OI lv) (OS s) (OL f cap)
  obtain ⟨w4, hw4⟩ : ∃ w4, w4 = (((((w.alloc (OW a bl bs L B)).alloc (OI fr)).alloc (OI to')).alloc (OI lv)).alloc (OS s)).alloc (OL f cap) := ⟨_, rfl⟩
  rw [← hw4] at hm hz4 q1 q2 q3 q4 q5 q6
  have HW := Lib.hid hw4
  clear hw4
  obtain ⟨c0, c1, c2, c3, c4, c5, c6⟩ := wv_cells q1
  have d2 := q2.cell
  have d3 := q3.cell
  have d4 := q4.cell
  have HCR : Hid (∀ w : World, Calls Try.prog 126 #[.int .i64 fr, .int .i64 to', .int .i64 (lv : Int), .int .i64 (B : Int)] w fun e w' => e = .returned (.tuple #[.int .i64 (lo : Int), .int .i64 (hi : Int), .bool any]) ∧ ∃ n, w' = w.drewN n) := fun w => by
    have hh := Dig.Cross_c fr to' (lv : Int) (B : Int) w
    rw [hcr] at hh
    exact hh
  have hmf := makeFunc_run
  have hsh := hO.shape
  have HZ := Lib.hid hz
  have HE := Lib.hid hE
  have HA := Lib.hid hA
  have HNO := Lib.hid hno
  have HOV := Lib.hid hover
  have HLO := Lib.hid hload
  have HM := Lib.hid hm
  have HZ4 := Lib.hid hz4
  have Q1 := Lib.hid q1
  have Q2 := Lib.hid q2
  have Q3 := Lib.hid q3
  have Q4 := Lib.hid q4
  have Q5 := Lib.hid q5
  have Q6 := Lib.hid q6
  have HL2 := Lib.hid hll2
  obtain ⟨As, ns, cs, rfl⟩ := hsh
  have hen : ∀ (args : Array Value) (w : World), (callFunc f args).run Try.prog w = .ok (.enter f args) w := hen'
  clear hz hE hA hO hno hover hload hm hz4 q1 q2 q3 q4 q5 q6 hcr hen' hll2
  go_enter Try.func106, Try.ntmps106
  go_wp2_with fail
  rw [← HW.out]
  refine (HCR.out _).mono ?_
  rintro e w5 ⟨rfl, k5, hk5⟩
  subst hk5
  have e1 := alloc_set (w4.drewN k5) (.int .i64 0) (.int .i64 (lo : Int)) 3
  change World.setCell _ ⟨w4.heap.size, 0, none⟩ _ = _ at e1
  have E1 := Lib.hid e1
  clear e1
  obtain ⟨f1, f2⟩ := two_boxes (w4.drewN k5) 3
  change World.cell? _ ⟨w4.heap.size, 0, none⟩ = _ at f1
  change World.frozen? _ ⟨w4.heap.size, 0, none⟩ = _ at f2
  go_upto_region 3 with fail
  rw [E1.out]
  clear f1 f2 E1 HCR
  have hd0 : Made w4 (w4.drewN k5) := Made.drewN w4 k5
  obtain ⟨m9, z9, r1, r2, r3⟩ := boxes3 (HZ4.out.later hd0.size) (OI lo) (OI hi) (OL 127 #[.pointer (some ⟨w.heap.size, 0, none⟩), .pointer (some ⟨w.heap.size + 1, 0, none⟩), .pointer (some ⟨w.heap.size + 1 + 1, 0, none⟩), .pointer (some ⟨w.heap.size + 1 + 1 + 1, 0, none⟩), .pointer (some ⟨w.heap.size + 1 + 1 + 1 + 1 + 1, 0, none⟩)])
  obtain ⟨w9, hw9⟩ : ∃ w9, w9 = (((w4.drewN k5).alloc (OI lo)).alloc (OI hi)).alloc (OL 127 #[.pointer (some ⟨w.heap.size, 0, none⟩), .pointer (some ⟨w.heap.size + 1, 0, none⟩), .pointer (some ⟨w.heap.size + 1 + 1, 0, none⟩), .pointer (some ⟨w.heap.size + 1 + 1 + 1, 0, none⟩), .pointer (some ⟨w.heap.size + 1 + 1 + 1 + 1 + 1, 0, none⟩)]) := ⟨_, rfl⟩
  rw [← hw9] at m9 z9 r1 r2 r3
  rw [← hw9]
  change Blk w9 Z w4.heap.size _ at r1
  change Blk w9 Z (w4.heap.size + 1) _ at r2
  change Blk w9 Z (w4.heap.size + 1 + 1) _ at r3
  have hm9 : Made w4 w9 := Made.trans hd0 m9
  have hm09 : Made w w9 := Made.trans HM.out hm9
  have p1 := Q1.out.later (Ext.of_made hm9)
  have p2 := Q2.out.later (Ext.of_made hm9)
  have p3 := Q3.out.later (Ext.of_made hm9)
  have p4 := Q4.out.later (Ext.of_made hm9)
  have p5 := Q5.out.later (Ext.of_made hm9)
  have p6 := Q6.out.later (Ext.of_made hm9)
  clear c0 c1 c2 c3 c4 c5 c6 d2 d3 d4 hw9 HW Q1 Q2 Q3 Q4 Q5 Q6
  obtain ⟨c0, c1, c2, c3, c4, c5, c6⟩ := wv_cells p1
  have x4 := p4.cell
  have x5 := p5.cell
  have x6 := p6.cell
  cases any with
  | false =>
    have HC := Lib.hid ((HNO.out rfl w9 hm09).mono fun e w2 he => (show EndsIn a b m w Z c Q e w2 ∧ ∃ v, e = .returned v from ⟨he, he.value⟩))
    clear hd0 m9 z9 r1 r2 r3 hm9 hm09 p1 p2 p3 p4 p5 p6 HZ HE HA HNO HOV HLO HM HZ4 HL2
    go_wp2_with fail
    refine HC.out.mono ?_
    rintro e w10 ⟨hg, v, rfl⟩
    go_wp2_with fail
    go_ret
    exact hg
  | true =>
    by_cases hlL : lv = L
    · have HC := Lib.hid ((HOV.out rfl hlL w9 hm09).mono fun e w2 he => (show EndsIn a b m w Z c Q e w2 ∧ ∃ v, e = .returned v from ⟨he, he.value⟩))
      have hlI : (lv : Int) = (L : Int) := by rw [hlL]
      clear hd0 m9 z9 r1 r2 r3 hm9 hm09 p1 p2 p3 p4 p5 p6 HZ HE HA HNO HOV HLO HM HZ4 HL2 hlL
      go_wp2_with fail
      refine HC.out.mono ?_
      rintro e w10 ⟨hg, v, rfl⟩
      go_wp2_with fail
      go_ret
      exact hg
    · have hlI : ¬ (lv : Int) = (L : Int) := by omega
      have hd : Made w9 w9.drew := Made.drewN w9 1
      have hwd : Made w w9.drew := Made.trans hm09 hd
      have HMP := Lib.hid (Map_w lv (by have := HE.out.l5; omega) w9.drew)
      have g1 := r1.later (Ext.of_made hd)
      have g2 := r2.later (Ext.of_made hd)
      have g3 := r3.later (Ext.of_made hd)
      have g4 := p1.later (Ext.of_made hd)
      have g5 := p4.later (Ext.of_made hd)
      have HC := Lib.hid ((HLO.out rfl (by omega) w9.drew _ _ _ _ _ _ _ _ _ hwd g1 g2 (p5.later (Ext.of_made hd)) g4 g5 (p2.later (Ext.of_made hd)) (p3.later (Ext.of_made hd)) (p6.later (Ext.of_made hd)) g3).mono fun e w2 he => (show EndsIn a b m w Z c Q e w2 ∧ (w2.cell? ⟨w.heap.size, 0, none⟩ = some (.pointer (some ⟨a, 0, none⟩)) ∧ w2.cell? ⟨w.heap.size, 4, none⟩ = some (.func (.func 59) #[] #[]) ∧ w2.cell? ⟨w.heap.size + 1 + 1 + 1, 0, none⟩ = some (.int .i64 (lv : Int))) ∧ ∃ v, e = .returned v from by
        obtain ⟨Z2, y1⟩ := blk_ends g4 he
        obtain ⟨k0, _, _, _, k4, _, _⟩ := wv_cells y1
        exact ⟨he.pre (Work.of_made HZ.out hwd), ⟨k0, k4, g5.ends he⟩, he.value⟩))
      clear hd0 m9 z9 r1 r2 r3 hm9 hm09 p1 p2 p3 p4 p5 p6 HZ HE HA HNO HOV HLO HM HZ4 HL2 hlL hd hwd g1 g2 g3 g4 g5
      go_wp2_with fail
      go_region_held3 (fun w2 => w2.cell? ⟨w.heap.size, 0, none⟩ = some (.pointer (some ⟨a, 0, none⟩)) ∧ w2.cell? ⟨w.heap.size, 4, none⟩ = some (.func (.func 59) #[] #[]) ∧ w2.cell? ⟨w.heap.size + 1 + 1 + 1, 0, none⟩ = some (.int .i64 (lv : Int))) (first | assumption | (refine ⟨?_, ?_, ?_⟩ <;> first | assumption | simpa using c0 | simpa using c4 | simpa using x4)) (first | (go_at_call 59; refine HMP.out.mono ?_; rintro e w' ⟨rfl, rfl⟩) | (go_at_call 42; refine HC.out.mono ?_; rintro e w3 ⟨he, hk, v, rfl⟩))
      all_goals
        go_wp2_with fail
        go_ret
        exact he
end Go.Proofs.Ytndpkonihcebeaa.Whl
