/- Package wheel: pass's continuations. -/
import Derived.Test.YtndpkonihcebeaaPasA
namespace Go.Proofs.Ytndpkonihcebeaa.Whl
open Go.RowKit Go.Proofs.Ytndpkonihcebeaa Go.Proofs.Ytndpkonihcebeaa.Cell Go.Proofs.Ytndpkonihcebeaa.Seq Go.Proofs.Ytndpkonihcebeaa.Num Go.Proofs.Ytndpkonihcebeaa.SetN Go.Proofs.Ytndpkonihcebeaa.Dig Go.Proofs.Ytndpkonihcebeaa.Bits
set_option linter.unusedVariables false
set_option linter.unusedSimpArgs false
variable {a b B0 bl bs L S B : Nat} {Q : World → Zone → Int → Prop}

abbrev OG (x : Int) : Obj := .cells #[.int .u64 x] 160 (0, 0)
/-- A list that a call has made is one that nobody turns. -/
theorem RdS.own {w w' : World} {Z : Zone} {v : Value} {ls : List Nat} (hz : ZOk a b w Z) (hm : Made w w') (h : w'.ownsRow w.heap.size 3 1 v ls.length (vals ls)) : ∃ A cc, v = .slice A ls.length cc ∧ RdS w' Z A ls ∧ ls.length ≤ cc ∧ cc ≤ 9223372036854775807 := by
  obtain ⟨hl, h0 | ⟨g, cap, cur, rfl, hb, hc, hnc, hm2, hs, ht⟩⟩ := h
  · have hls : ls = [] := List.length_eq_zero_iff.1 h0.2
    subst hls
    exact ⟨none, 0, h0.1, fun j x hj => by simp at hj, by simp, by omega⟩
  · refine ⟨_, cap, rfl, fun j x hj => ⟨_, rfl, (Array.getElem?_eq_some_iff.1 hc).1, fun hM => ?_, fun hT => ?_, ?_⟩, hnc, by unfold maxLen at hm2; omega⟩
    · have h9 : g < w.heap.size := hz.ml _ hM; omega
    · have h9 : g < w.heap.size := hz.tl _ hT; omega
    · have e : (⟨g, 0, none⟩ : Addr).add j = ⟨g, j, none⟩ := by unfold Addr.add; split <;> simp_all
      rw [e, cell_of_row _ _ _ _ _ _ hc]
      have hjl : j < ls.length := (List.getElem?_eq_some_iff.1 hj).1
      have e2 : (cur.toList.take (ls.length * 1))[j]? = (vals ls)[j]? := by rw [ht]
      rw [List.getElem?_take_of_lt (by omega)] at e2
      unfold vals at e2
      rw [List.getElem?_map, hj] at e2
      simpa using e2
set_option maxRecDepth 100000 in
set_option maxHeartbeats 4000000 in
/-- The slots that are gone are taken off. -/
theorem pass2b_w {n lv g bw bv bg bf bu : Nat} {f : FuncId} {cap : Array Value} {w : World} {Z : Zone} {c : Int} {xs l : List Int} {s : Value} (hz : ZOk a b w Z) (ha : a < B0) (hb : b < B0) (hB0 : B0 ≤ w.heap.size) (hE : Env w Z bl bs L S) (hA : Arena w a b c xs) (hO : Own B0 w Z s l) (hl : l.length ≤ 90000) (hg : g < 2 ^ 64) (hgs : ∀ i ∈ slotsOf g, i < S) (hlen : 1 + L + L * S ≤ xs.length) (hh : Heads (fun i => 1 + L ≤ i) xs) (hc : c + 64 < 4611686018427387904) (hlv : lv < L)
    (h1 : Blk w Z bw (OW a bl bs L B)) (h2 : Blk w Z bv (OI lv)) (h3 : Blk w Z bg (OG g)) (h4 : Blk w Z bf (OS s)) (h5 : Blk w Z bu (OL f cap))
    (ht : TakesL a b B0 n f cap w Z (c + (slotsOf g).length) (takeX (ats L S lv g) xs) (takeL (ats L S lv g) xs l) Q) :
    Calls Try.prog 131 #[.pointer (some ⟨bw, 0, none⟩), .pointer (some ⟨bv, 0, none⟩), .pointer (some ⟨bg, 0, none⟩), .pointer (some ⟨bf, 0, none⟩), .pointer (some ⟨bu, 0, none⟩)] w (EndsIn a b (n + 64) w Z c Q) := by
  obtain ⟨c0, c1, c2, c3, c4, c5, c6⟩ := wv_cells h1
  have d2 := h2.cell
  have d3 := h3.cell
  have d4 := h4.cell
  have d5 := h5.cell
  have hd : Made w w.drew := Made.drewN w 1
  have hsl := slots_len g
  have hLS : (lv + 1) * S ≤ L * S := Nat.mul_le_mul_right _ (by omega)
  have hLS2 : (lv + 1) * S = lv * S + S := by rw [Nat.add_mul, Nat.one_mul]
  have HLI : Hid (Calls Try.prog 133 #[.int .u64 (g : Int)] w.drew fun e w3 => ∃ v, e = .returned v ∧ (w3.cell? ⟨bw, 0, none⟩ = some (.pointer (some ⟨a, 0, none⟩)) ∧ w3.cell? ⟨bw, 1, none⟩ = some (.int .i64 (L : Int)) ∧ w3.cell? ⟨bw, 2, none⟩ = some (.int .i64 (B : Int)) ∧ w3.cell? ⟨bw, 3, none⟩ = some (.int .i64 0) ∧ w3.cell? ⟨bw, 4, none⟩ = some (.func (.func 59) #[] #[]) ∧ w3.cell? ⟨bw, 5, none⟩ = some (.func (.func 60) #[] #[.pointer (some ⟨bl, 0, none⟩), .pointer (some ⟨bs, 0, none⟩)]) ∧ w3.cell? ⟨bw, 6, none⟩ = some (.func (.func 61) #[] #[.pointer (some ⟨bl, 0, none⟩), .pointer (some ⟨bs, 0, none⟩)]) ∧ w3.cell? ⟨bv, 0, none⟩ = some (.int .i64 (lv : Int)) ∧ w3.cell? ⟨bg, 0, none⟩ = some (.int .u64 (g : Int)) ∧ w3.cell? ⟨bf, 0, none⟩ = some s ∧ w3.cell? ⟨bu, 0, none⟩ = some (.func (.func f) #[] cap)) ∧
      Hid (Calls Try.prog 132 #[.agg (WV a bl bs L B), .int .i64 (lv : Int), v, s, .func (.func f) #[] cap] w3 fun e w2 => EndsIn a b (n + 64) w Z c Q e w2 ∧ (w2.cell? ⟨bw, 0, none⟩ = some (.pointer (some ⟨a, 0, none⟩)) ∧ w2.cell? ⟨bw, 1, none⟩ = some (.int .i64 (L : Int)) ∧ w2.cell? ⟨bw, 2, none⟩ = some (.int .i64 (B : Int)) ∧ w2.cell? ⟨bw, 3, none⟩ = some (.int .i64 0) ∧ w2.cell? ⟨bw, 4, none⟩ = some (.func (.func 59) #[] #[]) ∧ w2.cell? ⟨bw, 5, none⟩ = some (.func (.func 60) #[] #[.pointer (some ⟨bl, 0, none⟩), .pointer (some ⟨bs, 0, none⟩)]) ∧ w2.cell? ⟨bw, 6, none⟩ = some (.func (.func 61) #[] #[.pointer (some ⟨bl, 0, none⟩), .pointer (some ⟨bs, 0, none⟩)]) ∧ w2.cell? ⟨bv, 0, none⟩ = some (.int .i64 (lv : Int)) ∧ w2.cell? ⟨bg, 0, none⟩ = some (.int .u64 (g : Int)) ∧ w2.cell? ⟨bf, 0, none⟩ = some s ∧ w2.cell? ⟨bu, 0, none⟩ = some (.func (.func f) #[] cap)) ∧ ∃ v, e = .returned v)) := by
    refine (Bits.List_c g hg w.drew).mono ?_
    rintro e w3 ⟨v, rfl, hown, hm3⟩
    have hwm : Made w w3 := Made.trans hd hm3
    have g1 := h1.later (Ext.of_made hwm)
    have g2 := h2.later (Ext.of_made hwm)
    have g3 := h3.later (Ext.of_made hwm)
    have g4 := h4.later (Ext.of_made hwm)
    have g5 := h5.later (Ext.of_made hwm)
    obtain ⟨k0, k1, k2, k3, k4, k5, k6⟩ := wv_cells g1
    obtain ⟨A, cc, rfl, hR, hcc1, hcc2⟩ := RdS.own (hz.later hd.size) hm3 hown
    refine ⟨_, rfl, ⟨k0, k1, k2, k3, k4, k5, k6, g2.cell, g3.cell, g4.cell, g5.cell⟩, ?_⟩
    refine (slots_w (B := B) (Q := Q) lv (slotsOf g) (hz.later hwm.size) ha hb (Nat.le_trans hB0 hwm.size) (hE.later (Ext.of_made hwm)) (hA.later hwm) (hO.made hwm) (by omega) (fun i hi => ⟨hgs i hi, by have := hgs i hi; omega⟩) hh (by omega) hR hcc1 hcc2 hlv (ht.later (Late.of_made hz hwm))).mono ?_
    intro e w2 he
    have he' := (he.pre (Work.of_made hz hwm)).more (show n + (slotsOf g).length ≤ n + 64 by omega)
    obtain ⟨Z2, x1⟩ := blk_ends g1 he
    obtain ⟨m0, m1, m2, m3, m4, m5, m6⟩ := wv_cells x1
    exact ⟨he', ⟨m0, m1, m2, m3, m4, m5, m6, g2.ends he, g3.ends he, g4.ends he, g5.ends he⟩, he.value⟩
  obtain ⟨As, ns, cs, rfl⟩ := hO.shape
  clear hz ha hb hB0 hE hA hO hl hg hgs hlen hh hc h1 h2 h3 h4 h5 ht hd hsl hLS hLS2
  go_enter Try.func131, Try.ntmps131
  go_wp2_with fail
  go_region_held3 (fun w2 => w2.cell? ⟨bw, 0, none⟩ = some (.pointer (some ⟨a, 0, none⟩)) ∧ w2.cell? ⟨bw, 1, none⟩ = some (.int .i64 (L : Int)) ∧ w2.cell? ⟨bw, 2, none⟩ = some (.int .i64 (B : Int)) ∧ w2.cell? ⟨bw, 3, none⟩ = some (.int .i64 0) ∧ w2.cell? ⟨bw, 4, none⟩ = some (.func (.func 59) #[] #[]) ∧ w2.cell? ⟨bw, 5, none⟩ = some (.func (.func 60) #[] #[.pointer (some ⟨bl, 0, none⟩), .pointer (some ⟨bs, 0, none⟩)]) ∧ w2.cell? ⟨bw, 6, none⟩ = some (.func (.func 61) #[] #[.pointer (some ⟨bl, 0, none⟩), .pointer (some ⟨bs, 0, none⟩)]) ∧ w2.cell? ⟨bv, 0, none⟩ = some (.int .i64 (lv : Int)) ∧ w2.cell? ⟨bg, 0, none⟩ = some (.int .u64 (g : Int)) ∧ w2.cell? ⟨bf, 0, none⟩ = some (.slice As ns cs) ∧ w2.cell? ⟨bu, 0, none⟩ = some (.func (.func f) #[] cap)) (first | assumption | (refine ⟨?_, ?_, ?_, ?_, ?_, ?_, ?_, ?_, ?_, ?_, ?_⟩ <;> first | assumption | simpa using c0 | simpa using c1 | simpa using c2 | simpa using c3 | simpa using c4 | simpa using c5 | simpa using c6 | simpa using d2 | simpa using d3 | simpa using d4 | simpa using d5)) (first | (go_at_call 133; refine HLI.out.mono ?_; rintro e w3 ⟨v, rfl, hk3, HSL⟩) | (go_at_call 132; refine HSL.out.mono ?_; rintro e w4 ⟨he, hk4, v4, rfl⟩))
  all_goals
    go_wp2_with fail
    go_ret
    exact he
theorem Between_w (set lo hi : Nat) (hs : set < 2 ^ 64) (hh : hi ≤ 63) (w : World) : Calls Try.prog 130 #[.int .u64 (set : Int), .int .i64 (lo : Int), .int .i64 (hi : Int)] w fun e w' => e = .returned (.int .u64 (gone set lo hi : Nat)) ∧ w = w' := by
  unfold gone
  by_cases h : lo ≤ hi
  · rw [if_pos h]
    exact Bits.Between_yes set lo hi lo hi hs (by rw [if_neg (by omega)]) (by rw [if_neg (by omega)]) h hh w
  · rw [if_neg h]
    exact Bits.Between_no set lo hi lo hi (by rw [if_neg (by omega)]) (by rw [if_neg (by omega)]) (by omega) w
set_option maxRecDepth 100000 in
set_option maxHeartbeats 4000000 in
/-- No slot of the level is gone. -/
theorem pass2_no {n lv set lo hi bw bv b1 b2 bf bu : Nat} {f : FuncId} {cap : Array Value} {w : World} {Z : Zone} {c : Int} {xs l : List Int} {s : Value} (hz : ZOk a b w Z) (hA : Arena w a b c xs) (hO : Own B0 w Z s l) (hs : set < 2 ^ 64) (hh : hi ≤ 63) (hg : gone set lo hi = 0)
    (h1 : Blk w Z b1 (OI lo)) (h2 : Blk w Z b2 (OI hi)) (h4 : Blk w Z bf (OS s)) (h5 : Blk w Z bu (OL f cap)) (ht : TakesL a b B0 n f cap w Z c xs l Q) :
    Calls Try.prog 129 #[.int .u64 (set : Int), .pointer (some ⟨b1, 0, none⟩), .pointer (some ⟨b2, 0, none⟩), .pointer (some ⟨bu, 0, none⟩), .pointer (some ⟨bf, 0, none⟩), .pointer (some ⟨bw, 0, none⟩), .pointer (some ⟨bv, 0, none⟩)] w (EndsIn a b n w Z c Q) := by
  have d1 := h1.cell
  have d2 := h2.cell
  have HB := Lib.hid (fun w => Between_w set lo hi hs hh w)
  rw [hg] at HB
  obtain ⟨hm, hz4, q1⟩ := boxes1 hz (OG 0)
  obtain ⟨w4, hw4⟩ : ∃ w4, w4 = w.alloc (OG 0) := ⟨_, rfl⟩
  rw [← hw4] at hm hz4 q1
  have HW := Lib.hid hw4
  clear hw4
  have x0 := q1.cell
  have x4 := (h4.later (Ext.of_made hm)).cell
  have x5 := (h5.later (Ext.of_made hm)).cell
  have HC : Hid (Calls Try.prog f (#[s] ++ cap) w4 (fun e w2 => EndsIn a b n w Z c Q e w2 ∧ ∃ v, e = .returned v)) := (ht.run w4 Z s (Late.of_made hz hm) hz4 (hA.later hm) (hO.made hm)).mono fun e w2 h => ⟨h.pre (Work.of_made hz hm), h.value⟩
  have hen : ∀ (args : Array Value) (w : World), (callFunc f args).run Try.prog w = .ok (.enter f args) w := ht.en
  obtain ⟨As, ns, cs, rfl⟩ := hO.shape
  clear hz hA hO hs hh hg h1 h2 h4 h5 ht hm hz4 q1
  go_enter Try.func129, Try.ntmps129
  go_wp2_with fail
  refine (HB.out _).mono ?_
  rintro e w' ⟨rfl, rfl⟩
  go_upto_region 3 with fail
  rw [← HW.out]
  go_wp2_with fail
  refine HC.out.mono ?_
  rintro e w9 ⟨hg, v, rfl⟩
  go_wp2_with fail
  go_ret
  exact hg
set_option maxRecDepth 100000 in
set_option maxHeartbeats 4000000 in
/-- Some slots of the level are gone: the map is stored without them. -/
theorem pass2_yes {n lv set lo hi bw bv b1 b2 bf bu : Nat} {f : FuncId} {cap : Array Value} {w : World} {Z : Zone} {c : Int} {xs l : List Int} {s : Value} (hz : ZOk a b w Z) (ha : a < B0) (hb : b < B0) (hB0 : B0 ≤ w.heap.size) (hE : Env w Z bl bs L S) (hA : Arena w a b c xs) (hO : Own B0 w Z s l) (hl : l.length ≤ 90000) (hs : set < 2 ^ S) (hlo : lo ≤ 64) (hh : hi ≤ 63) (hg : ¬ gone set lo hi = 0) (hlen : 1 + L + L * S ≤ xs.length) (hhd : Heads (fun i => 1 + L ≤ i) xs) (hc : c + 66 < 4611686018427387904) (hlv : lv < L)
    (h1 : Blk w Z b1 (OI lo)) (h2 : Blk w Z b2 (OI hi)) (h4 : Blk w Z bf (OS s)) (h5 : Blk w Z bu (OL f cap)) (h6 : Blk w Z bw (OW a bl bs L B)) (h7 : Blk w Z bv (OI lv))
    (ht : TakesL a b B0 n f cap w Z (c + 1 + (slotsOf (gone set lo hi)).length) (takeX (ats L S lv (gone set lo hi)) (xs.set (1 + lv) (clr set (gone set lo hi) : Nat))) (takeL (ats L S lv (gone set lo hi)) (xs.set (1 + lv) (clr set (gone set lo hi) : Nat)) l) Q) :
    Calls Try.prog 129 #[.int .u64 (set : Int), .pointer (some ⟨b1, 0, none⟩), .pointer (some ⟨b2, 0, none⟩), .pointer (some ⟨bu, 0, none⟩), .pointer (some ⟨bf, 0, none⟩), .pointer (some ⟨bw, 0, none⟩), .pointer (some ⟨bv, 0, none⟩)] w (EndsIn a b (n + 65) w Z c Q) := by
  have d1 := h1.cell
  have d2 := h2.cell
  have hs64 : set < 2 ^ 64 := Nat.lt_of_lt_of_le hs (Nat.pow_le_pow_right (by decide) hE.s2)
  have HB := Lib.hid (fun w => Between_w set lo hi hs64 hh w)
  have hgs : ∀ i ∈ slotsOf (gone set lo hi), i < S := fun i hi' => gone_slot hs hh hi'
  have hglt := gone_lt set lo hi
  obtain ⟨g, hge⟩ : ∃ g, g = gone set lo hi := ⟨_, rfl⟩
  rw [← hge] at HB hg hgs hglt ht
  clear hge
  have hg0 : ¬ (g : Int) = 0 := by omega
  obtain ⟨hm, hz4, q1⟩ := boxes1 hz (OG g)
  obtain ⟨w4, hw4⟩ : ∃ w4, w4 = w.alloc (OG g) := ⟨_, rfl⟩
  rw [← hw4] at hm hz4 q1
  have HW := Lib.hid hw4
  clear hw4
  have x0 := q1.cell
  have y6 := h6.later (Ext.of_made hm)
  have y7 := h7.later (Ext.of_made hm)
  obtain ⟨c0, _, _, _, c4, _, _⟩ := wv_cells y6
  have x7 := y7.cell
  have hd : Made w4 w4.drew := Made.drewN w4 1
  have hwd : Made w w4.drew := Made.trans hm hd
  have HM := Lib.hid (Map_w lv (by have := hE.l5; omega) w4.drew)
  have hclr : clr set g < 2 ^ 64 := Nat.lt_of_le_of_lt (clr_le set g) hs64
  have HAN : Hid (bits .andNot .u64 (set : Int) (g : Int) = (clr set g : Nat)) := bits_andNot set g hs64 hglt
  have p1 := q1.later (Ext.of_made hd)
  have p4 := h4.later (Ext.of_made hwd)
  have p5 := h5.later (Ext.of_made hwd)
  have p6 := y6.later (Ext.of_made hd)
  have p7 := y7.later (Ext.of_made hd)
  have hEd := hE.later (Ext.of_made hwd)
  have hOd := hO.made hwd
  have htd := ht.later (Late.of_made hz hwd)
  have hll : 1 + lv < xs.length := by
    have : L ≤ L * S := Nat.le_mul_of_pos_right _ (by have := hE.s1; omega)
    omega
  have HS : Hid (Calls Try.prog 98 #[.pointer (some ⟨a, 0, none⟩), .int .i64 ((1 + lv : Nat) : Int), .int .u64 (clr set g : Nat), .func (.func 131) #[] #[.pointer (some ⟨bw, 0, none⟩), .pointer (some ⟨bv, 0, none⟩), .pointer (some ⟨w.heap.size, 0, none⟩), .pointer (some ⟨bf, 0, none⟩), .pointer (some ⟨bu, 0, none⟩)]] w4.drew (fun e w2 => EndsIn a b (n + 65) w Z c Q e w2 ∧ (w2.cell? ⟨bw, 0, none⟩ = some (.pointer (some ⟨a, 0, none⟩)) ∧ w2.cell? ⟨bw, 4, none⟩ = some (.func (.func 59) #[] #[]) ∧ w2.cell? ⟨bv, 0, none⟩ = some (.int .i64 (lv : Int)) ∧ w2.cell? ⟨w.heap.size, 0, none⟩ = some (.int .u64 (g : Int))) ∧ ∃ v, e = .returned v)) := by
    refine (Store_s (n := n + 64) (Q := Q) (v := ((clr set g : Nat) : Int)) (hA.later hwd) (hz.later hwd.size) (by omega) hll (enters_of Try.func131 (by kernel_rfl) rfl) ?_).mono ?_
    · intro w' Z' m1 hz1 hA1
      have hsz := m1.ext.size
      have hsz2 := hwd.size
      exact pass2b_w hz1 ha hb (by omega) (hEd.later m1.ext) hA1 (hOd.mid ha hb m1) hl hglt hgs (by rw [List.length_set]; exact hlen) (fun i hi' => by rw [getD_set_ne' (by omega)]; exact hhd i hi') (by omega) hlv (p6.later m1.ext) (p7.later m1.ext) (p1.later m1.ext) (p4.later m1.ext) (p5.later m1.ext) (htd.later (Late.of_mid m1))
    · intro e w2 he
      obtain ⟨Z2, g1⟩ := blk_ends p6 he
      obtain ⟨k0, _, _, _, k4, _, _⟩ := wv_cells g1
      exact ⟨he.pre (Work.of_made hz hwd), ⟨k0, k4, p7.ends he, p1.ends he⟩, he.value⟩
  have hmf := makeFunc_run
  obtain ⟨As, ns, cs, rfl⟩ := hO.shape
  clear hz ha hb hB0 hE hA hO hl hs hlo hh hg hlen hhd hc h1 h2 h4 h5 h6 h7 ht hs64 hgs hglt hm hz4 q1 y6 y7 hd hwd hclr p1 p4 p5 p6 p7 hEd hOd htd hll
  go_enter Try.func129, Try.ntmps129
  go_wp2_with fail
  refine (HB.out _).mono ?_
  rintro e w' ⟨rfl, rfl⟩
  go_upto_region 3 with fail
  rw [← HW.out]
  go_wp2_with fail
  go_region_held3 (fun w2 => w2.cell? ⟨bw, 0, none⟩ = some (.pointer (some ⟨a, 0, none⟩)) ∧ w2.cell? ⟨bw, 4, none⟩ = some (.func (.func 59) #[] #[]) ∧ w2.cell? ⟨bv, 0, none⟩ = some (.int .i64 (lv : Int)) ∧ w2.cell? ⟨w.heap.size, 0, none⟩ = some (.int .u64 (g : Int))) (first | assumption | (refine ⟨?_, ?_, ?_, ?_⟩ <;> first | assumption | simpa using c0 | simpa using c4 | simpa using x7 | simpa using x0)) (first | (go_at_call 59; refine HM.out.mono ?_; rintro e w' ⟨rfl, rfl⟩) | (go_at_call 98; rw [HAN.out]; refine HS.out.mono ?_; rintro e w3 ⟨he, hk, v, rfl⟩))
  all_goals
    go_wp2_with fail
    go_ret
    exact he
end Go.Proofs.Ytndpkonihcebeaa.Whl
