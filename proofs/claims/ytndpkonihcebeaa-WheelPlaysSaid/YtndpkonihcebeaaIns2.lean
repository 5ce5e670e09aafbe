/- Package wheel: Insert's code, from the innermost outwards. -/
import Derived.Test.YtndpkonihcebeaaIns
namespace Go.Proofs.Ytndpkonihcebeaa.Whl
open Go.RowKit Go.Proofs.Ytndpkonihcebeaa Go.Proofs.Ytndpkonihcebeaa.Cell Go.Proofs.Ytndpkonihcebeaa.Seq Go.Proofs.Ytndpkonihcebeaa.Num Go.Proofs.Ytndpkonihcebeaa.SetN Go.Proofs.Ytndpkonihcebeaa.Dig
set_option linter.unusedVariables false
set_option linter.unusedSimpArgs false
variable {a b bl bs L S B : Nat} {Q : World → Zone → Int → Prop}

set_option maxRecDepth 100000 in
set_option maxHeartbeats 2000000 in
/-- The list had tickets, or it is the one of what is far off: the end. -/
theorem ins4_end {n lv first bw b1 b3 bk bf : Nat} {f : FuncId} {cap : Array Value} {w : World} {Z : Zone} {c : Int} {xs : List Int} (hA : Arena w a b c xs) (hZ : ZOk a b w Z)
    (h0 : Blk w Z bf (OU first)) (h1 : Blk w Z b1 (OI lv)) (h2 : Blk w Z bw (OW a bl bs L B)) (h3 : Blk w Z b3 (OF f cap)) (he : first ≠ 0 ∨ L ≤ lv) (ht : Takes0 a b n f cap w Z c xs Q) :
    Calls Try.prog 100 #[.pointer (some ⟨bf, 0, none⟩), .pointer (some ⟨b1, 0, none⟩), .pointer (some ⟨bw, 0, none⟩), .pointer (some ⟨b3, 0, none⟩), .pointer (some ⟨bk, 0, none⟩)] w (EndsIn a b n w Z c Q) := by
  obtain ⟨_, c1, _, _, _, _, _⟩ := wv_cells h2
  have d0 := h0.cell
  have d1 := h1.cell
  have d3 := h3.cell
  have hen : ∀ (args : Array Value) (w : World), (callFunc f args).run Try.prog w = .ok (.enter f args) w := ht.en
  have HC : Hid (Calls Try.prog f cap w (fun e w2 => EndsIn a b n w Z c Q e w2 ∧ ∃ v, e = .returned v)) := (ht.run w Z (Btw.refl _ _).mid hZ hA).mono fun e w2 h => ⟨h, h.value⟩
  clear hA hZ h0 h1 h2 h3 ht
  by_cases hf : first = 0
  · subst hf
    have hl : (L : Int) ≤ (lv : Int) := by rcases he with h | h; exact absurd rfl h; omega
    clear he
    go_enter Try.func100, Try.ntmps100
    go_wp2_with fail
    refine HC.out.mono ?_
    rintro e w2 ⟨hg, v, rfl⟩
    go_wp2_with fail
    go_ret
    exact hg
  · have hf' : ¬ (first : Int) = 0 := by omega
    clear he
    go_enter Try.func100, Try.ntmps100
    go_wp2_with fail
    refine HC.out.mono ?_
    rintro e w2 ⟨hg, v, rfl⟩
    go_wp2_with fail
    go_ret
    exact hg
set_option maxRecDepth 100000 in
set_option maxHeartbeats 2000000 in
/-- The list was empty: its slot is marked. -/
theorem ins4_mark {n lv sl set bw b1 b3 bk bf : Nat} {f : FuncId} {cap : Array Value} {w : World} {Z : Zone} {c : Int} {xs : List Int} (hA : Arena w a b c xs) (hZ : ZOk a b w Z) (hE : Env w Z bl bs L S) (hlv : lv < L) (hsl : sl < S) (hset : set < 2 ^ 64) (hi : 1 + lv < xs.length) (hx : xs.getD (1 + lv) 0 = (set : Int)) (hc : c + 2 < 4611686018427387904)
    (h0 : Blk w Z bf (OU 0)) (h1 : Blk w Z b1 (OI lv)) (h2 : Blk w Z bw (OW a bl bs L B)) (h3 : Blk w Z b3 (OF f cap)) (h4 : Blk w Z bk (OI sl)) (ht : Takes0 a b n f cap w Z (c + 1 + 1) (xs.set (1 + lv) (addI set sl : Nat)) Q) :
    Calls Try.prog 100 #[.pointer (some ⟨bf, 0, none⟩), .pointer (some ⟨b1, 0, none⟩), .pointer (some ⟨bw, 0, none⟩), .pointer (some ⟨b3, 0, none⟩), .pointer (some ⟨bk, 0, none⟩)] w (EndsIn a b (n + 2) w Z c Q) := by
  obtain ⟨_, c1, _, _, _, _, _⟩ := wv_cells h2
  have d0 := h0.cell
  have d1 := h1.cell
  have d3 := h3.cell
  have hmf := makeFunc_run
  have hl : ¬ (L : Int) ≤ (lv : Int) := by omega
  have HC : Hid (Calls Try.prog 101 #[.agg (WV a bl bs L B), .int .i64 (lv : Int), .func (.func 102) #[] #[.pointer (some ⟨bk, 0, none⟩)], .func (.func f) #[] cap] w (fun e w2 => EndsIn a b (n + 2) w Z c Q e w2 ∧ ∃ v, e = .returned v)) := (mark_w hA hZ hE hlv hsl hset hi hx hc h4 ht).mono fun e w2 h => ⟨h, h.value⟩
  clear hA hZ h0 h1 h2 h3 ht hE h4 hx
  go_enter Try.func100, Try.ntmps100
  go_wp2_with fail
  refine HC.out.mono ?_
  rintro e w2 ⟨hg, v, rfl⟩
  go_wp2_with fail
  go_ret
  exact hg
set_option maxRecDepth 100000 in
set_option maxHeartbeats 2000000 in
/-- The list's head is stored. -/
theorem ins3_w {m t at' first lv bw ba bt bf b1 b3 bk : Nat} {w : World} {Z : Zone} {c : Int} {xs : List Int} (hA : Arena w a b c xs) (hZ : ZOk a b w Z) (hi : at' < xs.length) (hc : c + 1 < 4611686018427387904) (ht : t < 1000)
    (h0 : Blk w Z bw (OW a bl bs L B)) (h1 : Blk w Z ba (OI at')) (h2 : Blk w Z bt (OI t))
    (hk : Takes0 a b m 100 #[.pointer (some ⟨bf, 0, none⟩), .pointer (some ⟨b1, 0, none⟩), .pointer (some ⟨bw, 0, none⟩), .pointer (some ⟨b3, 0, none⟩), .pointer (some ⟨bk, 0, none⟩)] w Z (c + 1) (xs.set at' ((t + 1 : Nat) : Int)) Q) :
    Calls Try.prog 99 #[.pointer (some ⟨bw, 0, none⟩), .pointer (some ⟨ba, 0, none⟩), .pointer (some ⟨bt, 0, none⟩), .pointer (some ⟨bf, 0, none⟩), .pointer (some ⟨b1, 0, none⟩), .pointer (some ⟨b3, 0, none⟩), .pointer (some ⟨bk, 0, none⟩)] w (EndsIn a b (m + 1) w Z c Q) := by
  obtain ⟨c0, _, _, _, _, _, _⟩ := wv_cells h0
  have d1 := h1.cell
  have d2 := h2.cell
  have HS : Hid (Calls Try.prog 98 #[.pointer (some ⟨a, 0, none⟩), .int .i64 (at' : Int), .int .u64 ((t : Int) + 1), .func (.func 100) #[] #[.pointer (some ⟨bf, 0, none⟩), .pointer (some ⟨b1, 0, none⟩), .pointer (some ⟨bw, 0, none⟩), .pointer (some ⟨b3, 0, none⟩), .pointer (some ⟨bk, 0, none⟩)]] w (fun e w2 => EndsIn a b (m + 1) w Z c Q e w2 ∧ ∃ v, e = .returned v)) := by
    have hh := Store_s (v := ((t + 1 : Nat) : Int)) hA hZ hc hi hk.en hk.run
    rw [show (((t + 1 : Nat) : Nat) : Int) = (t : Int) + 1 by push_cast; rfl] at hh
    exact hh.mono fun e w2 h => ⟨h, h.value⟩
  have hmf := makeFunc_run
  clear hA hZ h0 h1 h2 hk
  go_enter Try.func99, Try.ntmps99
  go_wp2_with fail
  refine HS.out.mono ?_
  rintro e w2 ⟨hg, v, rfl⟩
  go_wp2_with fail
  go_ret
  exact hg
set_option maxRecDepth 100000 in
set_option maxHeartbeats 2000000 in
/-- The ticket's link is stored. -/
theorem ins2_w {m t at' first lv bw ba bt b1 b3 bk : Nat} {w : World} {Z : Zone} {c : Int} {xs : List Int} (hA : Arena w a b c xs) (hZ : ZOk a b w Z) (hE : Env w Z bl bs L S) (hi : 1 + L * (1 + S) + t < xs.length) (hc : c + 1 < 4611686018427387904) (ht : t < 1000)
    (h0 : Blk w Z bw (OW a bl bs L B)) (h2 : Blk w Z bt (OI t))
    (hk : ∀ w1, Made w w1 → Blk w1 Z w.heap.size (OU first) → Takes0 a b m 99 #[.pointer (some ⟨bw, 0, none⟩), .pointer (some ⟨ba, 0, none⟩), .pointer (some ⟨bt, 0, none⟩), .pointer (some ⟨w.heap.size, 0, none⟩), .pointer (some ⟨b1, 0, none⟩), .pointer (some ⟨b3, 0, none⟩), .pointer (some ⟨bk, 0, none⟩)] w1 Z (c + 1) (xs.set (1 + L * (1 + S) + t) (first : Int)) Q) :
    Calls Try.prog 97 #[.int .u64 (first : Int), .pointer (some ⟨bw, 0, none⟩), .pointer (some ⟨bt, 0, none⟩), .pointer (some ⟨ba, 0, none⟩), .pointer (some ⟨b1, 0, none⟩), .pointer (some ⟨b3, 0, none⟩), .pointer (some ⟨bk, 0, none⟩)] w (EndsIn a b (m + 1) w Z c Q) := by
  obtain ⟨hm, hz4, q1⟩ := boxes1 hZ (OU first)
  obtain ⟨w4, hw4⟩ : ∃ w4, w4 = w.alloc (OU first) := ⟨_, rfl⟩
  rw [← hw4] at hm hz4 q1
  have HW := Lib.hid hw4
  clear hw4
  have p0 := h0.later (Ext.of_made hm)
  have p2 := h2.later (Ext.of_made hm)
  obtain ⟨c0, _, _, _, _, _, c6⟩ := wv_cells p0
  have d2 := p2.cell
  have d1 := q1.cell
  have hd : Made w4 w4.drew := Made.drewN w4 1
  have hwd : Made w w4.drew := Made.trans hm hd
  have hwk := Work.of_made hZ hwd
  have HM := Lib.hid (Link_w (hE.later (Ext.of_made hwd)) t ht)
  have hq := hk w4.drew hwd (q1.later (Ext.of_made hd))
  have HS : Hid (Calls Try.prog 98 #[.pointer (some ⟨a, 0, none⟩), .int .i64 ((1 + L * (1 + S) + t : Nat) : Int), .int .u64 (first : Int), .func (.func 99) #[] #[.pointer (some ⟨bw, 0, none⟩), .pointer (some ⟨ba, 0, none⟩), .pointer (some ⟨bt, 0, none⟩), .pointer (some ⟨w.heap.size, 0, none⟩), .pointer (some ⟨b1, 0, none⟩), .pointer (some ⟨b3, 0, none⟩), .pointer (some ⟨bk, 0, none⟩)]] w4.drew (fun e w2 => EndsIn a b (m + 1) w Z c Q e w2 ∧ (w2.cell? ⟨bw, 0, none⟩ = some (.pointer (some ⟨a, 0, none⟩)) ∧ w2.cell? ⟨bw, 6, none⟩ = some (.func (.func 61) #[] #[.pointer (some ⟨bl, 0, none⟩), .pointer (some ⟨bs, 0, none⟩)]) ∧ w2.cell? ⟨bt, 0, none⟩ = some (.int .i64 (t : Int)) ∧ w2.cell? ⟨w.heap.size, 0, none⟩ = some (.int .u64 (first : Int))) ∧ ∃ v, e = .returned v)) := by
    refine (Store_s (v := (first : Int)) (hA.later hwd) (hZ.later hwd.size) hc hi hq.en hq.run).mono ?_
    intro e w2 he
    obtain ⟨Z2, g1⟩ := blk_ends (p0.later (Ext.of_made hd)) he
    obtain ⟨k0, _, _, _, _, _, k6⟩ := wv_cells g1
    exact ⟨he.pre hwk, ⟨k0, k6, (p2.later (Ext.of_made hd)).ends he, (q1.later (Ext.of_made hd)).ends he⟩, he.value⟩
  have hmf := makeFunc_run
  clear hA hZ hE h0 h2 hk hm hz4 q1 p0 p2 hd hwd hwk hq
  go_enter Try.func97, Try.ntmps97
  go_wp2_with fail
  rw [← HW.out]
  go_region_held3 (fun w2 => w2.cell? ⟨bw, 0, none⟩ = some (.pointer (some ⟨a, 0, none⟩)) ∧ w2.cell? ⟨bw, 6, none⟩ = some (.func (.func 61) #[] #[.pointer (some ⟨bl, 0, none⟩), .pointer (some ⟨bs, 0, none⟩)]) ∧ w2.cell? ⟨bt, 0, none⟩ = some (.int .i64 (t : Int)) ∧ w2.cell? ⟨w.heap.size, 0, none⟩ = some (.int .u64 (first : Int))) (first | assumption | (refine ⟨?_, ?_, ?_, ?_⟩ <;> first | assumption | simpa using c0 | simpa using c6 | simpa using d2 | simpa using d1)) (first | (go_at_call 61; refine HM.out.mono ?_; rintro e w' ⟨rfl, rfl⟩) | (go_at_call 98; refine HS.out.mono ?_; rintro e w3 ⟨he, hk, v, rfl⟩))
  all_goals
    go_wp2_with fail
    go_ret
    exact he
/-- A new box, then its value: a box with its value. -/
theorem alloc_set (w : World) (x v : Value) (t : TypeId) : (w.alloc (.cells #[x] t)).setCell ⟨w.heap.size, 0, none⟩ v = w.alloc (.cells #[v] t) := by
  have h1 : (w.alloc (.cells #[x] t)).heap[w.heap.size]? = some (.cells #[x] t (0, 0)) := heap_alloc_new _ _
  have hh : ((w.alloc (.cells #[x] t)).setCell ⟨w.heap.size, 0, none⟩ v).heap = (w.alloc (.cells #[v] t)).heap := by
    apply Array.ext_getElem?
    intro i
    by_cases e1 : i = w.heap.size
    · subst e1
      rw [setCell_eq_setRow _ _ _ _ _ _ _ h1, heap_setRow_same _ _ _ _ _ _ h1, heap_alloc_new]; rfl
    · rw [Cell.heap_setCell_other _ _ _ _ _ e1]
      by_cases hi : i < w.heap.size
      · rw [heap_alloc_old _ _ hi, heap_alloc_old _ _ hi]
      · rw [Array.getElem?_eq_none (by rw [World.size_alloc]; omega), Array.getElem?_eq_none (by rw [World.size_alloc]; omega)]
  calc (w.alloc (.cells #[x] t)).setCell ⟨w.heap.size, 0, none⟩ v = { (w.alloc (.cells #[x] t)) with heap := ((w.alloc (.cells #[x] t)).setCell ⟨w.heap.size, 0, none⟩ v).heap } := rfl
    _ = { (w.alloc (.cells #[x] t)) with heap := (w.alloc (.cells #[v] t)).heap } := by rw [hh]
    _ = w.alloc (.cells #[v] t) := rfl
theorem two_boxes (w : World) (t : TypeId) :
    ((w.alloc (.cells #[.int .i64 0] t)).alloc (.cells #[.int .i64 0] t)).cell? ⟨w.heap.size, 0, none⟩ = some (.int .i64 0) ∧ ((w.alloc (.cells #[.int .i64 0] t)).alloc (.cells #[.int .i64 0] t)).frozen? ⟨w.heap.size, 0, none⟩ = false := by
  have h1 : ((w.alloc (.cells #[.int .i64 0] t)).alloc (.cells #[.int .i64 0] t)).heap[w.heap.size]? = some (.cells #[.int .i64 0] t (0, 0)) := by
    rw [heap_alloc_old _ _ (by rw [World.size_alloc]; omega)]; exact heap_alloc_new _ _
  exact ⟨by rw [cell_of_row _ _ _ _ _ _ h1]; rfl, frozen_of_row _ _ _ _ _ h1⟩
/-- Where the law's time says that a ticket is to be put. -/
structure Placed (n d : Int) (L B S lv sl : Nat) : Prop where
  at_ : placeOf n d L B = ((lv : Int), (sl : Int))
  l : lv ≤ L
  s : sl < S
set_option maxRecDepth 100000 in
set_option maxHeartbeats 4000000 in
theorem ins_w {m t lv sl : Nat} {now due : Int} {f : FuncId} {cap : Array Value} {w : World} {Z : Zone} {c : Int} {xs : List Int} (hA : Arena w a b c xs) (hZ : ZOk a b w Z) (hE : Env w Z bl bs L S) (hp : Placed now due L B S lv sl) (hi : at_ L S lv sl < xs.length) (hc : c + 1 < 4611686018427387904) (ht : t < 1000)
    (hk : ∀ w1 bw bt bb b1 b3 bk, Made w w1 → Blk w1 Z bw (OW a bl bs L B) → Blk w1 Z bt (OI t) → Blk w1 Z b3 (OF f cap) → Blk w1 Z b1 (OI lv) → Blk w1 Z bk (OI sl) → Blk w1 Z bb (OI (at_ L S lv sl)) → ∀ w' Z', Mid a b w1 Z w' Z' → ZOk a b w' Z' → Arena w' a b (c + 1) xs → Calls Try.prog 97 (#[.int .u64 (xs.getD (at_ L S lv sl) 0)] ++ #[.pointer (some ⟨bw, 0, none⟩), .pointer (some ⟨bt, 0, none⟩), .pointer (some ⟨bb, 0, none⟩), .pointer (some ⟨b1, 0, none⟩), .pointer (some ⟨b3, 0, none⟩), .pointer (some ⟨bk, 0, none⟩)]) w' (EndsIn a b m w' Z' (c + 1) Q)) :
    Calls Try.prog 63 #[.agg (WV a bl bs L B), .int .i64 (t : Int), .int .i64 now, .int .i64 due, .func (.func f) #[] cap] w (EndsIn a b (m + 1) w Z c Q) := by
  obtain ⟨hm, hz4, q1, q2, q3⟩ := boxes3 hZ (OW a bl bs L B) (OI t) (OF f cap)
  obtain ⟨w4, hw4⟩ : ∃ w4, w4 = ((w.alloc (OW a bl bs L B)).alloc (OI t)).alloc (OF f cap) := ⟨_, rfl⟩
  rw [← hw4] at hm hz4 q1 q2 q3
  have HW := Lib.hid hw4
  clear hw4
  obtain ⟨c0, c1, c2, _, _, _, _⟩ := wv_cells q1
  have HPL : Hid (∀ w : World, Calls Try.prog 96 #[.int .i64 now, .int .i64 due, .int .i64 (L : Int), .int .i64 (B : Int)] w fun e w' => e = .returned (.tuple #[.int .i64 (lv : Int), .int .i64 (sl : Int)]) ∧ ∃ n, w' = w.drewN n) := fun w => by
    have hh := Dig.Place_c now due (L : Int) (B : Int) w
    rw [hp.at_] at hh
    exact hh
  have hmf := makeFunc_run
  have HA := Lib.hid hA
  have HZ := Lib.hid hZ
  have HE := Lib.hid hE
  have HP := Lib.hid hp
  have HI := Lib.hid hi
  have HK := Lib.hid hk
  have HM := Lib.hid hm
  have HZ4 := Lib.hid hz4
  have Q1 := Lib.hid q1
  have Q2 := Lib.hid q2
  have Q3 := Lib.hid q3
  clear hA hZ hE hp hi hk hm hz4 q1 q2 q3
  go_enter Try.func63, Try.ntmps63
  go_wp2_with fail
  rw [← HW.out]
  refine (HPL.out _).mono ?_
  rintro e w5 ⟨rfl, k5, hk5⟩
  subst hk5
  have e1 := alloc_set (w4.drewN k5) (.int .i64 0) (.int .i64 (lv : Int)) 3
  change World.setCell _ ⟨w4.heap.size, 0, none⟩ _ = _ at e1
  have E1 := Lib.hid e1
  clear e1
  obtain ⟨f1, f2⟩ := two_boxes (w4.drewN k5) 3
  change World.cell? _ ⟨w4.heap.size, 0, none⟩ = _ at f1
  change World.frozen? _ ⟨w4.heap.size, 0, none⟩ = _ at f2
  go_upto_region 2 with fail
  rw [E1.out]
  clear f1 f2
  have hd : Made w4 (w4.drewN k5) := Made.drewN w4 k5
  obtain ⟨m6, z6, r1, r2⟩ := boxes2 (HZ4.out.later hd.size) (OI lv) (OI sl)
  obtain ⟨w6, hw6⟩ : ∃ w6, w6 = ((w4.drewN k5).alloc (OI lv)).alloc (OI sl) := ⟨_, rfl⟩
  rw [← hw6] at m6 z6 r1 r2
  rw [← hw6]
  change Blk w6 Z w4.heap.size _ at r1
  change Blk w6 Z (w4.heap.size + 1) _ at r2
  have hm6 : Made w4 w6 := Made.trans hd m6
  have p1 := Q1.out.later (Ext.of_made hm6)
  obtain ⟨c0, c1, c2, c3, c4, c5, c6⟩ := wv_cells p1
  have d1 := r1.cell
  have d2 := r2.cell
  have HLs := Lib.hid (list_w (B := B) z6 (HE.out.later (Ext.of_made (Made.trans HM.out hm6))) lv sl HP.out.l HP.out.s)
  have HM6 := Lib.hid hm6
  have Z6 := Lib.hid z6
  have R1 := Lib.hid r1
  have R2 := Lib.hid r2
  have P1 := Lib.hid p1
  clear hd m6 z6 r1 r2 hm6 p1 hw6 E1 HPL
  go_wp2_with fail
  refine HLs.out.mono ?_
  rintro e w7 ⟨rfl, hM7⟩
  have HM7 := Lib.hid hM7
  clear hM7 HLs c0 c1 c2 c3 c4 c5 c6 d1 d2
  go_upto_region 3 with fail
  obtain ⟨at', hat⟩ : ∃ x, x = at_ L S lv sl := ⟨_, rfl⟩
  rw [← hat] at HI HK
  rw [← hat]
  clear hat
  obtain ⟨m8, z8, s1⟩ := boxes1 (Z6.out.later HM7.out.size) (OI at')
  obtain ⟨w8, hw8⟩ : ∃ w8, w8 = w7.alloc (OI at') := ⟨_, rfl⟩
  rw [← hw8] at m8 z8 s1
  rw [← hw8]
  have hm7 := HM7.out
  have hm78 : Made w6 w8 := Made.trans HM7.out m8
  have hm48 : Made w4 w8 := Made.trans HM6.out hm78
  have hm08 : Made w w8 := Made.trans HM.out hm48
  have p1 := P1.out.later (Ext.of_made hm78)
  have p2 := Q2.out.later (Ext.of_made hm48)
  have p3 := Q3.out.later (Ext.of_made hm48)
  have r1 := R1.out.later (Ext.of_made hm78)
  have r2 := R2.out.later (Ext.of_made hm78)
  have HS : Hid (Calls Try.prog 42 #[.pointer (some ⟨a, 0, none⟩), .int .i64 (at' : Int), .func (.func 97) #[] #[.pointer (some ⟨w.heap.size, 0, none⟩), .pointer (some ⟨w.heap.size + 1, 0, none⟩), .pointer (some ⟨w7.heap.size, 0, none⟩), .pointer (some ⟨w4.heap.size, 0, none⟩), .pointer (some ⟨w.heap.size + 1 + 1, 0, none⟩), .pointer (some ⟨w4.heap.size + 1, 0, none⟩)]] w8 (fun e w2 => EndsIn a b (m + 1) w Z c Q e w2 ∧ ∃ v, e = .returned v)) := by
    refine (Load_s (HA.out.later hm08) z8 hc HI.out (enters_of Try.func97 (by kernel_rfl) rfl) (n := m) (Q := Q) (HK.out w8 _ _ _ _ _ _ hm08 p1 p2 p3 r1 r2 s1)).mono ?_
    intro e w2 he
    exact ⟨he.pre (Work.of_made HZ.out hm08), he.value⟩
  obtain ⟨c0, _, _, _, _, _, _⟩ := wv_cells p1
  have d1 := s1.cell
  clear m8 z8 s1 hw8 hm7 hm78 hm48 hm08 p1 p2 p3 r1 r2 HA HZ HE HP HI HK HM HZ4 Q1 Q2 Q3 HM6 Z6 R1 R2 P1 HM7 HW
  go_wp2_with fail
  refine HS.out.mono ?_
  rintro e w9 ⟨hg, v, rfl⟩
  go_wp2_with fail
  go_ret
  exact hg
end Go.Proofs.Ytndpkonihcebeaa.Whl
