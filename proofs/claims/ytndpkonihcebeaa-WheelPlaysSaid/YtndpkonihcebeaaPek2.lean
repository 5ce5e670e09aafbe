/- Package wheel: peek, the whole; the law's peek. -/
import Derived.Test.YtndpkonihcebeaaPek
namespace Go.Proofs.Ytndpkonihcebeaa.Whl
open Go.RowKit Go.Proofs.Ytndpkonihcebeaa Go.Proofs.Ytndpkonihcebeaa.Cell Go.Proofs.Ytndpkonihcebeaa.Seq Go.Proofs.Ytndpkonihcebeaa.Num Go.Proofs.Ytndpkonihcebeaa.SetN Go.Proofs.Ytndpkonihcebeaa.Dig Go.Proofs.Ytndpkonihcebeaa.Bits
set_option linter.unusedVariables false
set_option linter.unusedSimpArgs false
variable {a b bl bs L S B : Nat} {Q : World → Zone → Int → Prop}

set_option maxRecDepth 100000 in
set_option maxHeartbeats 4000000 in
/-- A level has nothing behind its digit: the next one. -/
theorem peek2_no {n lv set b1 b2 bw bt : Nat} {now : Int} {f : FuncId} {cap : Array Value} {w : World} {Z : Zone} {c : Int} (hz : ZOk a b w Z) (hlv : lv ≤ 20) (hs : set < 2 ^ 64) (hn : nextV set (dig now lv B + 1) < 0)
    (h1 : Blk w Z b1 (OI now)) (h2 : Blk w Z b2 (OI lv)) (h3 : Blk w Z bw (OW a bl bs L B)) (h4 : Blk w Z bt (OK1 f cap))
    (hr : ∀ w1, Made w w1 → Calls Try.prog 108 #[.agg (WV a bl bs L B), .int .i64 now, .int .i64 ((lv : Int) + 1), .func (.func f) #[] cap] w1 (EndsIn a b n w1 Z c Q)) :
    Calls Try.prog 136 #[.int .u64 (set : Int), .pointer (some ⟨b1, 0, none⟩), .pointer (some ⟨b2, 0, none⟩), .pointer (some ⟨bw, 0, none⟩), .pointer (some ⟨bt, 0, none⟩)] w (EndsIn a b n w Z c Q) := by
  obtain ⟨c0, c1, c2, c3, c4, c5, c6⟩ := wv_cells h3
  have d1 := h1.cell
  have d2 := h2.cell
  have d4 := h4.cell
  have HDG := Lib.hid (fun w => Dig.Digit_c now (lv : Int) (B : Int) w)
  have HNX : Hid (∀ w : World, Calls Try.prog 137 #[.int .u64 (set : Int), .int .i64 ((dig now lv B : Int) + 1)] w fun e w' => e = .returned (.int .i64 (-1)) ∧ w = w') := fun w => by
    have hh := Bits.Next_c set (dig now lv B + 1) hs (dig_le now lv B) w
    have hnb := nextV_bd set (dig now lv B + 1)
    rw [show nextV set (dig now lv B + 1) = -1 by omega] at hh
    exact hh
  have hdg := dig_le now lv B
  have HR : Hid (∀ w1, Made w w1 → Calls Try.prog 108 #[.agg (WV a bl bs L B), .int .i64 now, .int .i64 ((lv : Int) + 1), .func (.func f) #[] cap] w1 (fun e w2 => EndsIn a b n w Z c Q e w2 ∧ ∃ v, e = .returned v)) := fun w1 hm => (hr w1 hm).mono fun e w2 he => ⟨he.pre (Work.of_made hz hm), he.value⟩
  obtain ⟨D, hDe⟩ : ∃ D : Int, D = (dig now lv B : Int) := ⟨_, rfl⟩
  have hD1 : D ≤ 63 := by omega
  have hD0 : 0 ≤ D := by rw [hDe]; exact Int.natCast_nonneg _
  rw [← hDe] at HDG HNX
  have HWR : Hid (IntKind.i64.wrap ((lv : Int) + 1) = (lv : Int) + 1) := by show _ = _; rw [IntKind.wrap_i64]; omega
  have HQ : Hid (∀ w1, Made w w1 → (w1.cell? ⟨b1, 0, none⟩ = some (.int .i64 now) ∧ w1.cell? ⟨b2, 0, none⟩ = some (.int .i64 (lv : Int)) ∧ w1.cell? ⟨bt, 0, none⟩ = some (.func (.func f) #[] cap)) ∧ w1.cell? ⟨bw, 0, none⟩ = some (.pointer (some ⟨a, 0, none⟩)) ∧ w1.cell? ⟨bw, 1, none⟩ = some (.int .i64 (L : Int)) ∧ w1.cell? ⟨bw, 2, none⟩ = some (.int .i64 (B : Int)) ∧ w1.cell? ⟨bw, 3, none⟩ = some (.int .i64 0) ∧ w1.cell? ⟨bw, 4, none⟩ = some (.func (.func 59) #[] #[]) ∧ w1.cell? ⟨bw, 5, none⟩ = some (.func (.func 60) #[] #[.pointer (some ⟨bl, 0, none⟩), .pointer (some ⟨bs, 0, none⟩)]) ∧ w1.cell? ⟨bw, 6, none⟩ = some (.func (.func 61) #[] #[.pointer (some ⟨bl, 0, none⟩), .pointer (some ⟨bs, 0, none⟩)])) := fun w1 hm => ⟨⟨(h1.later (Ext.of_made hm)).cell, (h2.later (Ext.of_made hm)).cell, (h4.later (Ext.of_made hm)).cell⟩, wv_cells (h3.later (Ext.of_made hm))⟩
  clear hz h1 h2 h3 h4 hn hdg hDe hs hr
  go_enter Try.func136, Try.ntmps136
  go_wp2_with fail
  refine (HDG.out _).mono ?_
  rintro e w1 ⟨rfl, k1, hk1⟩
  have hmw : Made w w1 := hk1 ▸ Made.drewN w k1
  obtain ⟨⟨x1, x2, x4⟩, y0, y1, y2, y3, y4, y5, y6⟩ := HQ.out w1 hmw
  have HR1 := Lib.hid (HR.out w1 hmw)
  clear hk1 d1 d2 d4 c0 c1 c2 c3 c4 c5 c6 HR HQ hmw
  go_wp2_with fail
  refine (HNX.out _).mono ?_
  rintro e w' ⟨rfl, rfl⟩
  go_wp2_with fail
  (first | rw [HWR.out] | skip)
  refine HR1.out.mono ?_
  rintro e w3 ⟨he, v, rfl⟩
  go_wp2_with fail
  go_ret
  exact he
/-- What peek is told to do from a level on. -/
def PeekOK (a b bl bs L S B : Nat) (Q : World → Zone → Int → Prop) (now : Int) (d lv : Nat) : Prop :=
  ∀ {n N : Nat} {f : FuncId} {cap : Array Value} {w : World} {Z : Zone} {c : Int} {xs : List Int}, ZOk a b w Z → Env w Z bl bs L S → Arena w a b c xs → Good L S N xs → 1 + L + L * S ≤ N → c + ((d + 1 : Nat) : Int) < 4611686018427387904 → lv + d = L → L * B ≤ 20 →
    TakesI a b n f cap w Z (c + ((peekR now L B xs d lv).2 : Int)) xs (peekR now L B xs d lv).1 Q →
    Calls Try.prog 108 #[.agg (WV a bl bs L B), .int .i64 now, .int .i64 (lv : Int), .func (.func f) #[] cap] w (EndsIn a b (n + (d + 1)) w Z c Q)
set_option maxRecDepth 100000 in
set_option maxHeartbeats 4000000 in
theorem peek_zero (now : Int) (lv : Nat) : PeekOK a b bl bs L S B Q now 0 lv := by
  intro n N f cap w Z c xs hz hE hA hg hN hc hd hLB ht
  have hlL : lv = L := by omega
  subst hlL
  have hS1 := hE.s1
  obtain ⟨first, hf, hx⟩ := hg.heads 0 (Or.inl rfl)
  obtain ⟨hm, hz4, q1, q2, q3, q4⟩ := boxes4 hz (OW a bl bs lv B) (OI now) (OI lv) (OK1 f cap)
  obtain ⟨w4, hw4⟩ : ∃ w4, w4 = (((w.alloc (OW a bl bs lv B)).alloc (OI now)).alloc (OI lv)).alloc (OK1 f cap) := ⟨_, rfl⟩
  rw [← hw4] at hm hz4 q1 q2 q3 q4
  have HW := Lib.hid hw4
  clear hw4
  obtain ⟨c0, c1, c2, c3, c4, c5, c6⟩ := wv_cells q1
  have d3 := q3.cell
  have e : peekR now lv B xs 0 lv = (if first = 0 then -1 else (flo now lv B : Int) + ((2 ^ (lv * B) : Nat) : Int), 1) := by
    unfold peekR; rw [hx]
    by_cases h0 : first = 0
    · rw [if_pos (by omega), if_pos h0]
    · rw [if_neg (by omega), if_neg h0]
  rw [e] at ht
  have HS : Hid (Calls Try.prog 42 #[.pointer (some ⟨a, 0, none⟩), .int .i64 0, .func (.func 134) #[] #[.pointer (some ⟨w.heap.size + 1 + 1 + 1, 0, none⟩), .pointer (some ⟨w.heap.size + 1, 0, none⟩), .pointer (some ⟨w.heap.size + 1 + 1, 0, none⟩), .pointer (some ⟨w.heap.size, 0, none⟩)]] w4 (fun e w2 => EndsIn a b (n + 1) w Z c Q e w2 ∧ ∃ v, e = .returned v)) := by
    refine (Load_s (i := 0) (n := n) (Q := Q) (hA.later hm) hz4 (by omega) (by rw [hg.len]; omega) (enters_of Try.func134 (by kernel_rfl) rfl) ?_).mono ?_
    · intro w' Z' m1 hz1 hA1
      rw [hx]
      exact peek1_w hz1 hA1 hLB (q4.later m1.ext) (q2.later m1.ext) (q3.later m1.ext) (q1.later m1.ext) ((ht.later (Btw.of_made hz hm).mid).later m1)
    · intro e w2 he
      exact ⟨he.pre (Work.of_made hz hm), he.value⟩
  have hmf := makeFunc_run
  have hl : (lv : Int) = (lv : Int) := rfl
  clear hz hE hA hg hN hc hd hLB ht hm hz4 q1 q2 q3 q4 hS1 hx hf e
  go_enter Try.func108, Try.ntmps108
  go_wp2_with fail
  rw [← HW.out]
  refine HS.out.mono ?_
  rintro e w9 ⟨hg, v, rfl⟩
  go_wp2_with fail
  go_ret
  exact hg
set_option maxRecDepth 100000 in
set_option maxHeartbeats 4000000 in
theorem peek_succ (now : Int) (d lv : Nat) (IH : PeekOK a b bl bs L S B Q now d (lv + 1)) : PeekOK a b bl bs L S B Q now (d + 1) lv := by
  intro n N f cap w Z c xs hz hE hA hg hN hc hd hLB ht
  have hlL : lv < L := by omega
  have hL8 := hE.l5
  have hS1 := hE.s1
  have hLS : L ≤ L * S := Nat.le_mul_of_pos_right _ (by omega)
  have hvB : lv * B ≤ 20 := Nat.le_trans (Nat.mul_le_mul_right _ (by omega)) hLB
  obtain ⟨set, hset, hx⟩ := hg.maps lv hlL
  have hs64 : set < 2 ^ 64 := Nat.lt_of_lt_of_le hset (Nat.pow_le_pow_right (by decide) hE.s2)
  obtain ⟨hm, hz4, q1, q2, q3, q4⟩ := boxes4 hz (OW a bl bs L B) (OI now) (OI lv) (OK1 f cap)
  obtain ⟨w4, hw4⟩ : ∃ w4, w4 = (((w.alloc (OW a bl bs L B)).alloc (OI now)).alloc (OI lv)).alloc (OK1 f cap) := ⟨_, rfl⟩
  rw [← hw4] at hm hz4 q1 q2 q3 q4
  have HW := Lib.hid hw4
  clear hw4
  obtain ⟨c0, c1, c2, c3, c4, c5, c6⟩ := wv_cells q1
  have d3 := q3.cell
  have hd1 : Made w4 w4.drew := Made.drewN w4 1
  have hwd : Made w w4.drew := Made.trans hm hd1
  have HM := Lib.hid (Map_w lv (by omega) w4.drew)
  have p1 := q1.later (Ext.of_made hd1)
  have p2 := q2.later (Ext.of_made hd1)
  have p3 := q3.later (Ext.of_made hd1)
  have p4 := q4.later (Ext.of_made hd1)
  have es : (xs.getD (1 + lv) 0).toNat = set := by rw [hx, Int.toNat_natCast]
  have htd := ht.later (Btw.of_made hz hwd).mid
  have hEd := hE.later (Ext.of_made hwd)
  have HS : Hid (Calls Try.prog 42 #[.pointer (some ⟨a, 0, none⟩), .int .i64 ((1 + lv : Nat) : Int), .func (.func 136) #[] #[.pointer (some ⟨w.heap.size + 1, 0, none⟩), .pointer (some ⟨w.heap.size + 1 + 1, 0, none⟩), .pointer (some ⟨w.heap.size, 0, none⟩), .pointer (some ⟨w.heap.size + 1 + 1 + 1, 0, none⟩)]] w4.drew (fun e w2 => EndsIn a b (n + (d + 1 + 1)) w Z c Q e w2 ∧ (w2.cell? ⟨w.heap.size, 0, none⟩ = some (.pointer (some ⟨a, 0, none⟩)) ∧ w2.cell? ⟨w.heap.size, 4, none⟩ = some (.func (.func 59) #[] #[]) ∧ w2.cell? ⟨w.heap.size + 1 + 1, 0, none⟩ = some (.int .i64 (lv : Int))) ∧ ∃ v, e = .returned v)) := by
    refine (Load_s (n := n + (d + 1)) (Q := Q) (hA.later hwd) (hz.later hwd.size) (by omega) (by rw [hg.len]; omega) (enters_of Try.func136 (by kernel_rfl) rfl) ?_).mono ?_
    · intro w' Z' m1 hz1 hA1
      rw [hx]
      have ht1 := htd.later m1
      by_cases hn : nextV set (dig now lv B + 1) < 0
      · have e : peekR now L B xs (d + 1) lv = ((peekR now L B xs d (lv + 1)).1, (peekR now L B xs d (lv + 1)).2 + 1) := by
          conv => lhs; unfold peekR
          rw [es, if_pos hn]
        rw [e] at ht1
        refine peek2_no hz1 (by omega) hs64 hn (p2.later m1.ext) (p3.later m1.ext) (p1.later m1.ext) (p4.later m1.ext) (fun w1 hm1 => ?_)
        have e9 : c + (((peekR now L B xs d (lv + 1)).2 + 1 : Nat) : Int) = c + 1 + ((peekR now L B xs d (lv + 1)).2 : Int) := by push_cast; omega
        simp only [e9] at ht1
        have hh := IH (n := n) (N := N) (hz1.later hm1.size) ((hEd.later m1.ext).later (Ext.of_made hm1)) (hA1.later hm1) hg hN (by omega) (by omega) hLB (ht1.later (Btw.of_made hz1 hm1).mid)
        rw [show (((lv + 1 : Nat) : Nat) : Int) = (lv : Int) + 1 by push_cast; rfl] at hh
        exact hh
      · have e : peekR now L B xs (d + 1) lv = ((flo now ((lv : Int) + 1) B : Int) + nextV set (dig now lv B + 1) * ((2 ^ (lv * B) : Nat) : Int), 1) := by
          conv => lhs; unfold peekR
          rw [es, if_neg hn]
        rw [e] at ht1
        exact (peek2_yes hz1 hA1 hvB (by omega) hs64 hn (p2.later m1.ext) (p3.later m1.ext) (p1.later m1.ext) (p4.later m1.ext) ht1).mono fun e w2 he => he.more (by omega)
    · intro e w2 he
      obtain ⟨Z2, g1⟩ := blk_ends p1 he
      obtain ⟨k0, _, _, _, k4, _, _⟩ := wv_cells g1
      exact ⟨he.pre (Work.of_made hz hwd), ⟨k0, k4, p3.ends he⟩, he.value⟩
  have hmf := makeFunc_run
  have hl : ¬ (lv : Int) = (L : Int) := by omega
  clear IH hz hE hA hg hN hc hd hLB ht hm hz4 q1 q2 q3 q4 hS1 hx es p1 p2 p3 p4 htd hEd hd1 hwd hset hs64 hLS hvB
  go_enter Try.func108, Try.ntmps108
  go_wp2_with fail
  rw [← HW.out]
  go_region_held3 (fun w2 => w2.cell? ⟨w.heap.size, 0, none⟩ = some (.pointer (some ⟨a, 0, none⟩)) ∧ w2.cell? ⟨w.heap.size, 4, none⟩ = some (.func (.func 59) #[] #[]) ∧ w2.cell? ⟨w.heap.size + 1 + 1, 0, none⟩ = some (.int .i64 (lv : Int))) (first | assumption | (refine ⟨?_, ?_, ?_⟩ <;> first | assumption | simpa using c0 | simpa using c4 | simpa using d3)) (first | (go_at_call 59; refine HM.out.mono ?_; rintro e w' ⟨rfl, rfl⟩) | (go_at_call 42; refine HS.out.mono ?_; rintro e w3 ⟨he, hk, v, rfl⟩))
  all_goals
    go_wp2_with fail
    go_ret
    exact he
theorem peek_w (now : Int) : ∀ d lv, PeekOK a b bl bs L S B Q now d lv
  | 0, lv => peek_zero now lv
  | d + 1, lv => peek_succ now d lv (peek_w now d (lv + 1))
end Go.Proofs.Ytndpkonihcebeaa.Whl
