/- Package wheel: Insert's inner code. -/
import Derived.Test.YtndpkonihcebeaaWhl
namespace Go.Proofs.Ytndpkonihcebeaa.Whl
open Go.RowKit Go.Proofs.Ytndpkonihcebeaa Go.Proofs.Ytndpkonihcebeaa.Cell Go.Proofs.Ytndpkonihcebeaa.Seq Go.Proofs.Ytndpkonihcebeaa.Num Go.Proofs.Ytndpkonihcebeaa.SetN
set_option linter.unusedVariables false
set_option linter.unusedSimpArgs false

abbrev OW (a bl bs L B : Nat) : Obj := .cells (WV a bl bs L B) 71 (0, 0)
abbrev OF (f : FuncId) (cap : Array Value) : Obj := .cells #[.func (.func f) #[] cap] 39 (0, 0)
abbrev OT (f : FuncId) (cap : Array Value) : Obj := .cells #[.func (.func f) #[] cap] 162 (0, 0)
abbrev OU (x : Int) : Obj := .cells #[.int .u64 x] 58 (0, 0)
theorem makeFunc_run (fn : Fn) (first cap : Array Value) (w : World) : (Instr.makeFunc fn first cap).run Try.prog w = .ok (.func fn first cap) w := rfl
/-- A continuation without arguments. -/
structure Takes0 (a b n : Nat) (f : FuncId) (cap : Array Value) (w : World) (Z : Zone) (c : Int) (xs : List Int) (Q : World → Zone → Int → Prop) : Prop where
  en : Enters Try.prog f
  run : ∀ w' Z', Mid a b w Z w' Z' → ZOk a b w' Z' → Arena w' a b c xs → Calls Try.prog f cap w' (EndsIn a b n w' Z' c Q)
theorem Takes0.later {a b n : Nat} {f : FuncId} {cap : Array Value} {w w1 : World} {Z Z1 : Zone} {c : Int} {xs : List Int} {Q : World → Zone → Int → Prop} (h : Takes0 a b n f cap w Z c xs Q) (m : Mid a b w Z w1 Z1) : Takes0 a b n f cap w1 Z1 c xs Q :=
  ⟨h.en, fun w' Z' h1 h2 h3 => h.run w' Z' (m.trans h1) h2 h3⟩
theorem blk_ends {a b n : Nat} {w w2 : World} {Z : Zone} {c : Int} {Q : World → Zone → Int → Prop} {e : Ending} {k : Nat} {o : Obj} (h : Blk w Z k o) (he : EndsIn a b n w Z c Q e w2) : ∃ Z'', Blk w2 Z'' k o := by
  obtain ⟨_, Z'', _, h1, _⟩ := he
  exact ⟨Z'', h.later h1.ext⟩
variable {a b bl bs L S B : Nat} {Q : World → Zone → Int → Prop}
set_option maxHeartbeats 1000000 in
theorem Turn_w {w : World} {Z : Zone} {k : Nat} {sl : Nat} (h : Blk w Z k (OI sl)) (set : Nat) (hs : set < 2 ^ 64) : Calls Try.prog 102 #[.int .u64 (set : Int), .pointer (some ⟨k, 0, none⟩)] w fun e w' => e = .returned (.int .u64 (addI set sl : Nat)) ∧ w = w' := by
  have c1 := h.cell
  have HW := Lib.hid (fun w => Bits.With_c set (sl : Int) hs w)
  clear h
  go_enter Try.func102, Try.ntmps102
  go_wp2_with fail
  refine (HW.out _).mono ?_
  rintro e w' ⟨rfl, rfl⟩
  go_wp2_with fail
  go_ret
  exact ⟨rfl, rfl⟩
set_option maxRecDepth 100000 in
set_option maxHeartbeats 2000000 in
/-- mark's continuation. -/
theorem mark1_w {n lv sl set bw bv bt bf bk : Nat} {f : FuncId} {cap : Array Value} {w : World} {Z : Zone} {c : Int} {xs : List Int} (hA : Arena w a b c xs) (hZ : ZOk a b w Z) (hE : Env w Z bl bs L S) (hlv : lv < L) (hsl : sl < S) (hset : set < 2 ^ 64) (hi : 1 + lv < xs.length) (hc : c + 1 < 4611686018427387904)
    (h1 : Blk w Z bw (OW a bl bs L B)) (h2 : Blk w Z bv (OI lv)) (h3 : Blk w Z bt (OT 102 #[.pointer (some ⟨bk, 0, none⟩)])) (h4 : Blk w Z bf (OF f cap)) (h5 : Blk w Z bk (OI sl))
    (ht : Takes0 a b n f cap w Z (c + 1) (xs.set (1 + lv) (addI set sl : Nat)) Q) :
    Calls Try.prog 124 #[.int .u64 (set : Int), .pointer (some ⟨bw, 0, none⟩), .pointer (some ⟨bv, 0, none⟩), .pointer (some ⟨bt, 0, none⟩), .pointer (some ⟨bf, 0, none⟩)] w (EndsIn a b (n + 1) w Z c Q) := by
  obtain ⟨c0, _, _, _, c4, _, _⟩ := wv_cells h1
  have d2 := h2.cell
  have d3 := h3.cell
  have d4 := h4.cell
  have hd : Made w w.drew := Made.drewN w 1
  have hwk := Work.of_made hZ hd
  have HM := Lib.hid (Map_w lv (by have := hE.l5; omega) w.drew)
  have HT := Lib.hid (Turn_w (h5.later (Ext.of_made hd)) set hset)
  have HS : Hid (Calls Try.prog 98 #[.pointer (some ⟨a, 0, none⟩), .int .i64 ((1 + lv : Nat) : Int), .int .u64 (addI set sl : Nat), .func (.func f) #[] cap] w.drew (fun e w2 => EndsIn a b (n + 1) w Z c Q e w2 ∧ (w2.cell? ⟨bw, 0, none⟩ = some (.pointer (some ⟨a, 0, none⟩)) ∧ w2.cell? ⟨bw, 4, none⟩ = some (.func (.func 59) #[] #[]) ∧ w2.cell? ⟨bv, 0, none⟩ = some (.int .i64 (lv : Int)) ∧ w2.cell? ⟨bt, 0, none⟩ = some (.func (.func 102) #[] #[.pointer (some ⟨bk, 0, none⟩)]) ∧ w2.cell? ⟨bf, 0, none⟩ = some (.func (.func f) #[] cap)) ∧ ∃ v, e = .returned v)) := by
    refine (Store_s (hA.later hd) (hZ.later hd.size) hc hi ht.en ((ht.later (Btw.of_made hZ hd).mid).run)).mono ?_
    intro e w2 he
    have he' := he.pre hwk
    obtain ⟨Z2, g1⟩ := blk_ends h1 he'
    obtain ⟨k0, _, _, _, k4, _, _⟩ := wv_cells g1
    exact ⟨he', ⟨k0, k4, h2.ends he', h3.ends he', h4.ends he'⟩, he'.value⟩
  clear hA hZ hE h1 h2 h3 h4 h5 ht hd hwk
  generalize addI set sl = set2 at *
  go_enter Try.func124, Try.ntmps124
  go_wp2_with fail
  go_region_held3 (fun w2 => w2.cell? ⟨bw, 0, none⟩ = some (.pointer (some ⟨a, 0, none⟩)) ∧ w2.cell? ⟨bw, 4, none⟩ = some (.func (.func 59) #[] #[]) ∧ w2.cell? ⟨bv, 0, none⟩ = some (.int .i64 (lv : Int)) ∧ w2.cell? ⟨bt, 0, none⟩ = some (.func (.func 102) #[] #[.pointer (some ⟨bk, 0, none⟩)]) ∧ w2.cell? ⟨bf, 0, none⟩ = some (.func (.func f) #[] cap)) (first | assumption | (refine ⟨?_, ?_, ?_, ?_, ?_⟩ <;> first | assumption | simpa using c0 | simpa using c4 | simpa using d2 | simpa using d3 | simpa using d4)) (first | (go_at_call 59; refine HM.out.mono ?_; rintro e w' ⟨rfl, rfl⟩) | (go_at_call 102; refine HT.out.mono ?_; rintro e w' ⟨rfl, rfl⟩) | (go_at_call 98; refine HS.out.mono ?_; rintro e w3 ⟨he, hk, v, rfl⟩))
  all_goals
    go_wp2_with fail
    go_ret
    exact he
theorem boxes1 {w : World} {Z : Zone} (hz : ZOk a b w Z) (o1 : Obj) : Made w (w.alloc o1) ∧ ZOk a b (w.alloc o1) Z ∧ Blk (w.alloc o1) Z (w.heap.size) o1 := by
  have m0 : Made w w := Made.refl w
  have z0 : ZOk a b (w) Z := hz.later m0.size
  have k0 : Made (w) (w.alloc o1) := (Made.refl _).alloc (Nat.le_refl _) _
  have m1 : Made w (w.alloc o1) := Made.trans m0 k0
  have q0 : Blk (w.alloc o1) Z (w.heap.size) o1 := by
    have q := Blk.new z0 o1
    try simp only [World.size_alloc] at q
    exact q
  exact ⟨m1, hz.later m1.size, q0⟩
theorem boxes2 {w : World} {Z : Zone} (hz : ZOk a b w Z) (o1 o2 : Obj) : Made w ((w.alloc o1).alloc o2) ∧ ZOk a b ((w.alloc o1).alloc o2) Z ∧ Blk ((w.alloc o1).alloc o2) Z (w.heap.size) o1 ∧ Blk ((w.alloc o1).alloc o2) Z (w.heap.size + 1) o2 := by
  have m0 : Made w w := Made.refl w
  have z0 : ZOk a b (w) Z := hz.later m0.size
  have k0 : Made (w) ((w.alloc o1)) := (Made.refl _).alloc (Nat.le_refl _) _
  have m1 : Made w ((w.alloc o1)) := Made.trans m0 k0
  have q0 : Blk ((w.alloc o1)) Z (w.heap.size) o1 := by
    have q := Blk.new z0 o1
    try simp only [World.size_alloc] at q
    exact q
  have z1 : ZOk a b ((w.alloc o1)) Z := hz.later m1.size
  have k1 : Made ((w.alloc o1)) ((w.alloc o1).alloc o2) := (Made.refl _).alloc (Nat.le_refl _) _
  have m2 : Made w ((w.alloc o1).alloc o2) := Made.trans m1 k1
  have q1 : Blk ((w.alloc o1).alloc o2) Z (w.heap.size + 1) o2 := by
    have q := Blk.new z1 o2
    try simp only [World.size_alloc] at q
    exact q
  have q0 := q0.later (Ext.of_made k1)
  exact ⟨m2, hz.later m2.size, q0, q1⟩
theorem boxes3 {w : World} {Z : Zone} (hz : ZOk a b w Z) (o1 o2 o3 : Obj) : Made w (((w.alloc o1).alloc o2).alloc o3) ∧ ZOk a b (((w.alloc o1).alloc o2).alloc o3) Z ∧ Blk (((w.alloc o1).alloc o2).alloc o3) Z (w.heap.size) o1 ∧ Blk (((w.alloc o1).alloc o2).alloc o3) Z (w.heap.size + 1) o2 ∧ Blk (((w.alloc o1).alloc o2).alloc o3) Z (w.heap.size + 1 + 1) o3 := by
  have m0 : Made w w := Made.refl w
  have z0 : ZOk a b (w) Z := hz.later m0.size
  have k0 : Made (w) ((w.alloc o1)) := (Made.refl _).alloc (Nat.le_refl _) _
  have m1 : Made w ((w.alloc o1)) := Made.trans m0 k0
  have q0 : Blk ((w.alloc o1)) Z (w.heap.size) o1 := by
    have q := Blk.new z0 o1
    try simp only [World.size_alloc] at q
    exact q
  have z1 : ZOk a b ((w.alloc o1)) Z := hz.later m1.size
  have k1 : Made ((w.alloc o1)) (((w.alloc o1).alloc o2)) := (Made.refl _).alloc (Nat.le_refl _) _
  have m2 : Made w (((w.alloc o1).alloc o2)) := Made.trans m1 k1
  have q1 : Blk (((w.alloc o1).alloc o2)) Z (w.heap.size + 1) o2 := by
    have q := Blk.new z1 o2
    try simp only [World.size_alloc] at q
    exact q
  have q0 := q0.later (Ext.of_made k1)
  have z2 : ZOk a b (((w.alloc o1).alloc o2)) Z := hz.later m2.size
  have k2 : Made (((w.alloc o1).alloc o2)) (((w.alloc o1).alloc o2).alloc o3) := (Made.refl _).alloc (Nat.le_refl _) _
  have m3 : Made w (((w.alloc o1).alloc o2).alloc o3) := Made.trans m2 k2
  have q2 : Blk (((w.alloc o1).alloc o2).alloc o3) Z (w.heap.size + 1 + 1) o3 := by
    have q := Blk.new z2 o3
    try simp only [World.size_alloc] at q
    exact q
  have q0 := q0.later (Ext.of_made k2)
  have q1 := q1.later (Ext.of_made k2)
  exact ⟨m3, hz.later m3.size, q0, q1, q2⟩
theorem boxes4 {w : World} {Z : Zone} (hz : ZOk a b w Z) (o1 o2 o3 o4 : Obj) : Made w ((((w.alloc o1).alloc o2).alloc o3).alloc o4) ∧ ZOk a b ((((w.alloc o1).alloc o2).alloc o3).alloc o4) Z ∧ Blk ((((w.alloc o1).alloc o2).alloc o3).alloc o4) Z (w.heap.size) o1 ∧ Blk ((((w.alloc o1).alloc o2).alloc o3).alloc o4) Z (w.heap.size + 1) o2 ∧ Blk ((((w.alloc o1).alloc o2).alloc o3).alloc o4) Z (w.heap.size + 1 + 1) o3 ∧ Blk ((((w.alloc o1).alloc o2).alloc o3).alloc o4) Z (w.heap.size + 1 + 1 + 1) o4 := by
  have m0 : Made w w := Made.refl w
  have z0 : ZOk a b (w) Z := hz.later m0.size
  have k0 : Made (w) ((w.alloc o1)) := (Made.refl _).alloc (Nat.le_refl _) _
  have m1 : Made w ((w.alloc o1)) := Made.trans m0 k0
  have q0 : Blk ((w.alloc o1)) Z (w.heap.size) o1 := by
    have q := Blk.new z0 o1
    try simp only [World.size_alloc] at q
    exact q
  have z1 : ZOk a b ((w.alloc o1)) Z := hz.later m1.size
  have k1 : Made ((w.alloc o1)) (((w.alloc o1).alloc o2)) := (Made.refl _).alloc (Nat.le_refl _) _
  have m2 : Made w (((w.alloc o1).alloc o2)) := Made.trans m1 k1
  have q1 : Blk (((w.alloc o1).alloc o2)) Z (w.heap.size + 1) o2 := by
    have q := Blk.new z1 o2
    try simp only [World.size_alloc] at q
    exact q
  have q0 := q0.later (Ext.of_made k1)
  have z2 : ZOk a b (((w.alloc o1).alloc o2)) Z := hz.later m2.size
  have k2 : Made (((w.alloc o1).alloc o2)) ((((w.alloc o1).alloc o2).alloc o3)) := (Made.refl _).alloc (Nat.le_refl _) _
  have m3 : Made w ((((w.alloc o1).alloc o2).alloc o3)) := Made.trans m2 k2
  have q2 : Blk ((((w.alloc o1).alloc o2).alloc o3)) Z (w.heap.size + 1 + 1) o3 := by
    have q := Blk.new z2 o3
    try simp only [World.size_alloc] at q
    exact q
  have q0 := q0.later (Ext.of_made k2)
  have q1 := q1.later (Ext.of_made k2)
  have z3 : ZOk a b ((((w.alloc o1).alloc o2).alloc o3)) Z := hz.later m3.size
  have k3 : Made ((((w.alloc o1).alloc o2).alloc o3)) ((((w.alloc o1).alloc o2).alloc o3).alloc o4) := (Made.refl _).alloc (Nat.le_refl _) _
  have m4 : Made w ((((w.alloc o1).alloc o2).alloc o3).alloc o4) := Made.trans m3 k3
  have q3 : Blk ((((w.alloc o1).alloc o2).alloc o3).alloc o4) Z (w.heap.size + 1 + 1 + 1) o4 := by
    have q := Blk.new z3 o4
    try simp only [World.size_alloc] at q
    exact q
  have q0 := q0.later (Ext.of_made k3)
  have q1 := q1.later (Ext.of_made k3)
  have q2 := q2.later (Ext.of_made k3)
  exact ⟨m4, hz.later m4.size, q0, q1, q2, q3⟩
theorem boxes5 {w : World} {Z : Zone} (hz : ZOk a b w Z) (o1 o2 o3 o4 o5 : Obj) : Made w (((((w.alloc o1).alloc o2).alloc o3).alloc o4).alloc o5) ∧ ZOk a b (((((w.alloc o1).alloc o2).alloc o3).alloc o4).alloc o5) Z ∧ Blk (((((w.alloc o1).alloc o2).alloc o3).alloc o4).alloc o5) Z (w.heap.size) o1 ∧ Blk (((((w.alloc o1).alloc o2).alloc o3).alloc o4).alloc o5) Z (w.heap.size + 1) o2 ∧ Blk (((((w.alloc o1).alloc o2).alloc o3).alloc o4).alloc o5) Z (w.heap.size + 1 + 1) o3 ∧ Blk (((((w.alloc o1).alloc o2).alloc o3).alloc o4).alloc o5) Z (w.heap.size + 1 + 1 + 1) o4 ∧ Blk (((((w.alloc o1).alloc o2).alloc o3).alloc o4).alloc o5) Z (w.heap.size + 1 + 1 + 1 + 1) o5 := by
  have m0 : Made w w := Made.refl w
  have z0 : ZOk a b (w) Z := hz.later m0.size
  have k0 : Made (w) ((w.alloc o1)) := (Made.refl _).alloc (Nat.le_refl _) _
  have m1 : Made w ((w.alloc o1)) := Made.trans m0 k0
  have q0 : Blk ((w.alloc o1)) Z (w.heap.size) o1 := by
    have q := Blk.new z0 o1
    try simp only [World.size_alloc] at q
    exact q
  have z1 : ZOk a b ((w.alloc o1)) Z := hz.later m1.size
  have k1 : Made ((w.alloc o1)) (((w.alloc o1).alloc o2)) := (Made.refl _).alloc (Nat.le_refl _) _
  have m2 : Made w (((w.alloc o1).alloc o2)) := Made.trans m1 k1
  have q1 : Blk (((w.alloc o1).alloc o2)) Z (w.heap.size + 1) o2 := by
    have q := Blk.new z1 o2
    try simp only [World.size_alloc] at q
    exact q
  have q0 := q0.later (Ext.of_made k1)
  have z2 : ZOk a b (((w.alloc o1).alloc o2)) Z := hz.later m2.size
  have k2 : Made (((w.alloc o1).alloc o2)) ((((w.alloc o1).alloc o2).alloc o3)) := (Made.refl _).alloc (Nat.le_refl _) _
  have m3 : Made w ((((w.alloc o1).alloc o2).alloc o3)) := Made.trans m2 k2
  have q2 : Blk ((((w.alloc o1).alloc o2).alloc o3)) Z (w.heap.size + 1 + 1) o3 := by
    have q := Blk.new z2 o3
    try simp only [World.size_alloc] at q
    exact q
  have q0 := q0.later (Ext.of_made k2)
  have q1 := q1.later (Ext.of_made k2)
  have z3 : ZOk a b ((((w.alloc o1).alloc o2).alloc o3)) Z := hz.later m3.size
  have k3 : Made ((((w.alloc o1).alloc o2).alloc o3)) (((((w.alloc o1).alloc o2).alloc o3).alloc o4)) := (Made.refl _).alloc (Nat.le_refl _) _
  have m4 : Made w (((((w.alloc o1).alloc o2).alloc o3).alloc o4)) := Made.trans m3 k3
  have q3 : Blk (((((w.alloc o1).alloc o2).alloc o3).alloc o4)) Z (w.heap.size + 1 + 1 + 1) o4 := by
    have q := Blk.new z3 o4
    try simp only [World.size_alloc] at q
    exact q
  have q0 := q0.later (Ext.of_made k3)
  have q1 := q1.later (Ext.of_made k3)
  have q2 := q2.later (Ext.of_made k3)
  have z4 : ZOk a b (((((w.alloc o1).alloc o2).alloc o3).alloc o4)) Z := hz.later m4.size
  have k4 : Made (((((w.alloc o1).alloc o2).alloc o3).alloc o4)) (((((w.alloc o1).alloc o2).alloc o3).alloc o4).alloc o5) := (Made.refl _).alloc (Nat.le_refl _) _
  have m5 : Made w (((((w.alloc o1).alloc o2).alloc o3).alloc o4).alloc o5) := Made.trans m4 k4
  have q4 : Blk (((((w.alloc o1).alloc o2).alloc o3).alloc o4).alloc o5) Z (w.heap.size + 1 + 1 + 1 + 1) o5 := by
    have q := Blk.new z4 o5
    try simp only [World.size_alloc] at q
    exact q
  have q0 := q0.later (Ext.of_made k4)
  have q1 := q1.later (Ext.of_made k4)
  have q2 := q2.later (Ext.of_made k4)
  have q3 := q3.later (Ext.of_made k4)
  exact ⟨m5, hz.later m5.size, q0, q1, q2, q3, q4⟩
theorem boxes6 {w : World} {Z : Zone} (hz : ZOk a b w Z) (o1 o2 o3 o4 o5 o6 : Obj) : Made w ((((((w.alloc o1).alloc o2).alloc o3).alloc o4).alloc o5).alloc o6) ∧ ZOk a b ((((((w.alloc o1).alloc o2).alloc o3).alloc o4).alloc o5).alloc o6) Z ∧ Blk ((((((w.alloc o1).alloc o2).alloc o3).alloc o4).alloc o5).alloc o6) Z (w.heap.size) o1 ∧ Blk ((((((w.alloc o1).alloc o2).alloc o3).alloc o4).alloc o5).alloc o6) Z (w.heap.size + 1) o2 ∧ Blk ((((((w.alloc o1).alloc o2).alloc o3).alloc o4).alloc o5).alloc o6) Z (w.heap.size + 1 + 1) o3 ∧ Blk ((((((w.alloc o1).alloc o2).alloc o3).alloc o4).alloc o5).alloc o6) Z (w.heap.size + 1 + 1 + 1) o4 ∧ Blk ((((((w.alloc o1).alloc o2).alloc o3).alloc o4).alloc o5).alloc o6) Z (w.heap.size + 1 + 1 + 1 + 1) o5 ∧ Blk ((((((w.alloc o1).alloc o2).alloc o3).alloc o4).alloc o5).alloc o6) Z (w.heap.size + 1 + 1 + 1 + 1 + 1) o6 := by
  have m0 : Made w w := Made.refl w
  have z0 : ZOk a b (w) Z := hz.later m0.size
  have k0 : Made (w) ((w.alloc o1)) := (Made.refl _).alloc (Nat.le_refl _) _
  have m1 : Made w ((w.alloc o1)) := Made.trans m0 k0
  have q0 : Blk ((w.alloc o1)) Z (w.heap.size) o1 := by
    have q := Blk.new z0 o1
    try simp only [World.size_alloc] at q
    exact q
  have z1 : ZOk a b ((w.alloc o1)) Z := hz.later m1.size
  have k1 : Made ((w.alloc o1)) (((w.alloc o1).alloc o2)) := (Made.refl _).alloc (Nat.le_refl _) _
  have m2 : Made w (((w.alloc o1).alloc o2)) := Made.trans m1 k1
  have q1 : Blk (((w.alloc o1).alloc o2)) Z (w.heap.size + 1) o2 := by
    have q := Blk.new z1 o2
    try simp only [World.size_alloc] at q
    exact q
  have q0 := q0.later (Ext.of_made k1)
  have z2 : ZOk a b (((w.alloc o1).alloc o2)) Z := hz.later m2.size
  have k2 : Made (((w.alloc o1).alloc o2)) ((((w.alloc o1).alloc o2).alloc o3)) := (Made.refl _).alloc (Nat.le_refl _) _
  have m3 : Made w ((((w.alloc o1).alloc o2).alloc o3)) := Made.trans m2 k2
  have q2 : Blk ((((w.alloc o1).alloc o2).alloc o3)) Z (w.heap.size + 1 + 1) o3 := by
    have q := Blk.new z2 o3
    try simp only [World.size_alloc] at q
    exact q
  have q0 := q0.later (Ext.of_made k2)
  have q1 := q1.later (Ext.of_made k2)
  have z3 : ZOk a b ((((w.alloc o1).alloc o2).alloc o3)) Z := hz.later m3.size
  have k3 : Made ((((w.alloc o1).alloc o2).alloc o3)) (((((w.alloc o1).alloc o2).alloc o3).alloc o4)) := (Made.refl _).alloc (Nat.le_refl _) _
  have m4 : Made w (((((w.alloc o1).alloc o2).alloc o3).alloc o4)) := Made.trans m3 k3
  have q3 : Blk (((((w.alloc o1).alloc o2).alloc o3).alloc o4)) Z (w.heap.size + 1 + 1 + 1) o4 := by
    have q := Blk.new z3 o4
    try simp only [World.size_alloc] at q
    exact q
  have q0 := q0.later (Ext.of_made k3)
  have q1 := q1.later (Ext.of_made k3)
  have q2 := q2.later (Ext.of_made k3)
  have z4 : ZOk a b (((((w.alloc o1).alloc o2).alloc o3).alloc o4)) Z := hz.later m4.size
  have k4 : Made (((((w.alloc o1).alloc o2).alloc o3).alloc o4)) ((((((w.alloc o1).alloc o2).alloc o3).alloc o4).alloc o5)) := (Made.refl _).alloc (Nat.le_refl _) _
  have m5 : Made w ((((((w.alloc o1).alloc o2).alloc o3).alloc o4).alloc o5)) := Made.trans m4 k4
  have q4 : Blk ((((((w.alloc o1).alloc o2).alloc o3).alloc o4).alloc o5)) Z (w.heap.size + 1 + 1 + 1 + 1) o5 := by
    have q := Blk.new z4 o5
    try simp only [World.size_alloc] at q
    exact q
  have q0 := q0.later (Ext.of_made k4)
  have q1 := q1.later (Ext.of_made k4)
  have q2 := q2.later (Ext.of_made k4)
  have q3 := q3.later (Ext.of_made k4)
  have z5 : ZOk a b ((((((w.alloc o1).alloc o2).alloc o3).alloc o4).alloc o5)) Z := hz.later m5.size
  have k5 : Made ((((((w.alloc o1).alloc o2).alloc o3).alloc o4).alloc o5)) ((((((w.alloc o1).alloc o2).alloc o3).alloc o4).alloc o5).alloc o6) := (Made.refl _).alloc (Nat.le_refl _) _
  have m6 : Made w ((((((w.alloc o1).alloc o2).alloc o3).alloc o4).alloc o5).alloc o6) := Made.trans m5 k5
  have q5 : Blk ((((((w.alloc o1).alloc o2).alloc o3).alloc o4).alloc o5).alloc o6) Z (w.heap.size + 1 + 1 + 1 + 1 + 1) o6 := by
    have q := Blk.new z5 o6
    try simp only [World.size_alloc] at q
    exact q
  have q0 := q0.later (Ext.of_made k5)
  have q1 := q1.later (Ext.of_made k5)
  have q2 := q2.later (Ext.of_made k5)
  have q3 := q3.later (Ext.of_made k5)
  have q4 := q4.later (Ext.of_made k5)
  exact ⟨m6, hz.later m6.size, q0, q1, q2, q3, q4, q5⟩
theorem boxes8 {w : World} {Z : Zone} (hz : ZOk a b w Z) (o1 o2 o3 o4 o5 o6 o7 o8 : Obj) : Made w ((((((((w.alloc o1).alloc o2).alloc o3).alloc o4).alloc o5).alloc o6).alloc o7).alloc o8) ∧ ZOk a b ((((((((w.alloc o1).alloc o2).alloc o3).alloc o4).alloc o5).alloc o6).alloc o7).alloc o8) Z ∧ Blk ((((((((w.alloc o1).alloc o2).alloc o3).alloc o4).alloc o5).alloc o6).alloc o7).alloc o8) Z (w.heap.size) o1 ∧ Blk ((((((((w.alloc o1).alloc o2).alloc o3).alloc o4).alloc o5).alloc o6).alloc o7).alloc o8) Z (w.heap.size + 1) o2 ∧ Blk ((((((((w.alloc o1).alloc o2).alloc o3).alloc o4).alloc o5).alloc o6).alloc o7).alloc o8) Z (w.heap.size + 1 + 1) o3 ∧ Blk ((((((((w.alloc o1).alloc o2).alloc o3).alloc o4).alloc o5).alloc o6).alloc o7).alloc o8) Z (w.heap.size + 1 + 1 + 1) o4 ∧ Blk ((((((((w.alloc o1).alloc o2).alloc o3).alloc o4).alloc o5).alloc o6).alloc o7).alloc o8) Z (w.heap.size + 1 + 1 + 1 + 1) o5 ∧ Blk ((((((((w.alloc o1).alloc o2).alloc o3).alloc o4).alloc o5).alloc o6).alloc o7).alloc o8) Z (w.heap.size + 1 + 1 + 1 + 1 + 1) o6 ∧ Blk ((((((((w.alloc o1).alloc o2).alloc o3).alloc o4).alloc o5).alloc o6).alloc o7).alloc o8) Z (w.heap.size + 1 + 1 + 1 + 1 + 1 + 1) o7 ∧ Blk ((((((((w.alloc o1).alloc o2).alloc o3).alloc o4).alloc o5).alloc o6).alloc o7).alloc o8) Z (w.heap.size + 1 + 1 + 1 + 1 + 1 + 1 + 1) o8 := by
  have m0 : Made w w := Made.refl w
  have z0 : ZOk a b (w) Z := hz.later m0.size
  have k0 : Made (w) ((w.alloc o1)) := (Made.refl _).alloc (Nat.le_refl _) _
  have m1 : Made w ((w.alloc o1)) := Made.trans m0 k0
  have q0 : Blk ((w.alloc o1)) Z (w.heap.size) o1 := by
    have q := Blk.new z0 o1
    try simp only [World.size_alloc] at q
    exact q
  have z1 : ZOk a b ((w.alloc o1)) Z := hz.later m1.size
  have k1 : Made ((w.alloc o1)) (((w.alloc o1).alloc o2)) := (Made.refl _).alloc (Nat.le_refl _) _
  have m2 : Made w (((w.alloc o1).alloc o2)) := Made.trans m1 k1
  have q1 : Blk (((w.alloc o1).alloc o2)) Z (w.heap.size + 1) o2 := by
    have q := Blk.new z1 o2
    try simp only [World.size_alloc] at q
    exact q
  have q0 := q0.later (Ext.of_made k1)
  have z2 : ZOk a b (((w.alloc o1).alloc o2)) Z := hz.later m2.size
  have k2 : Made (((w.alloc o1).alloc o2)) ((((w.alloc o1).alloc o2).alloc o3)) := (Made.refl _).alloc (Nat.le_refl _) _
  have m3 : Made w ((((w.alloc o1).alloc o2).alloc o3)) := Made.trans m2 k2
  have q2 : Blk ((((w.alloc o1).alloc o2).alloc o3)) Z (w.heap.size + 1 + 1) o3 := by
    have q := Blk.new z2 o3
    try simp only [World.size_alloc] at q
    exact q
  have q0 := q0.later (Ext.of_made k2)
  have q1 := q1.later (Ext.of_made k2)
  have z3 : ZOk a b ((((w.alloc o1).alloc o2).alloc o3)) Z := hz.later m3.size
  have k3 : Made ((((w.alloc o1).alloc o2).alloc o3)) (((((w.alloc o1).alloc o2).alloc o3).alloc o4)) := (Made.refl _).alloc (Nat.le_refl _) _
  have m4 : Made w (((((w.alloc o1).alloc o2).alloc o3).alloc o4)) := Made.trans m3 k3
  have q3 : Blk (((((w.alloc o1).alloc o2).alloc o3).alloc o4)) Z (w.heap.size + 1 + 1 + 1) o4 := by
    have q := Blk.new z3 o4
    try simp only [World.size_alloc] at q
    exact q
  have q0 := q0.later (Ext.of_made k3)
  have q1 := q1.later (Ext.of_made k3)
  have q2 := q2.later (Ext.of_made k3)
  have z4 : ZOk a b (((((w.alloc o1).alloc o2).alloc o3).alloc o4)) Z := hz.later m4.size
  have k4 : Made (((((w.alloc o1).alloc o2).alloc o3).alloc o4)) ((((((w.alloc o1).alloc o2).alloc o3).alloc o4).alloc o5)) := (Made.refl _).alloc (Nat.le_refl _) _
  have m5 : Made w ((((((w.alloc o1).alloc o2).alloc o3).alloc o4).alloc o5)) := Made.trans m4 k4
  have q4 : Blk ((((((w.alloc o1).alloc o2).alloc o3).alloc o4).alloc o5)) Z (w.heap.size + 1 + 1 + 1 + 1) o5 := by
    have q := Blk.new z4 o5
    try simp only [World.size_alloc] at q
    exact q
  have q0 := q0.later (Ext.of_made k4)
  have q1 := q1.later (Ext.of_made k4)
  have q2 := q2.later (Ext.of_made k4)
  have q3 := q3.later (Ext.of_made k4)
  have z5 : ZOk a b ((((((w.alloc o1).alloc o2).alloc o3).alloc o4).alloc o5)) Z := hz.later m5.size
  have k5 : Made ((((((w.alloc o1).alloc o2).alloc o3).alloc o4).alloc o5)) (((((((w.alloc o1).alloc o2).alloc o3).alloc o4).alloc o5).alloc o6)) := (Made.refl _).alloc (Nat.le_refl _) _
  have m6 : Made w (((((((w.alloc o1).alloc o2).alloc o3).alloc o4).alloc o5).alloc o6)) := Made.trans m5 k5
  have q5 : Blk (((((((w.alloc o1).alloc o2).alloc o3).alloc o4).alloc o5).alloc o6)) Z (w.heap.size + 1 + 1 + 1 + 1 + 1) o6 := by
    have q := Blk.new z5 o6
    try simp only [World.size_alloc] at q
    exact q
  have q0 := q0.later (Ext.of_made k5)
  have q1 := q1.later (Ext.of_made k5)
  have q2 := q2.later (Ext.of_made k5)
  have q3 := q3.later (Ext.of_made k5)
  have q4 := q4.later (Ext.of_made k5)
  have z6 : ZOk a b (((((((w.alloc o1).alloc o2).alloc o3).alloc o4).alloc o5).alloc o6)) Z := hz.later m6.size
  have k6 : Made (((((((w.alloc o1).alloc o2).alloc o3).alloc o4).alloc o5).alloc o6)) ((((((((w.alloc o1).alloc o2).alloc o3).alloc o4).alloc o5).alloc o6).alloc o7)) := (Made.refl _).alloc (Nat.le_refl _) _
  have m7 : Made w ((((((((w.alloc o1).alloc o2).alloc o3).alloc o4).alloc o5).alloc o6).alloc o7)) := Made.trans m6 k6
  have q6 : Blk ((((((((w.alloc o1).alloc o2).alloc o3).alloc o4).alloc o5).alloc o6).alloc o7)) Z (w.heap.size + 1 + 1 + 1 + 1 + 1 + 1) o7 := by
    have q := Blk.new z6 o7
    try simp only [World.size_alloc] at q
    exact q
  have q0 := q0.later (Ext.of_made k6)
  have q1 := q1.later (Ext.of_made k6)
  have q2 := q2.later (Ext.of_made k6)
  have q3 := q3.later (Ext.of_made k6)
  have q4 := q4.later (Ext.of_made k6)
  have q5 := q5.later (Ext.of_made k6)
  have z7 : ZOk a b ((((((((w.alloc o1).alloc o2).alloc o3).alloc o4).alloc o5).alloc o6).alloc o7)) Z := hz.later m7.size
  have k7 : Made ((((((((w.alloc o1).alloc o2).alloc o3).alloc o4).alloc o5).alloc o6).alloc o7)) ((((((((w.alloc o1).alloc o2).alloc o3).alloc o4).alloc o5).alloc o6).alloc o7).alloc o8) := (Made.refl _).alloc (Nat.le_refl _) _
  have m8 : Made w ((((((((w.alloc o1).alloc o2).alloc o3).alloc o4).alloc o5).alloc o6).alloc o7).alloc o8) := Made.trans m7 k7
  have q7 : Blk ((((((((w.alloc o1).alloc o2).alloc o3).alloc o4).alloc o5).alloc o6).alloc o7).alloc o8) Z (w.heap.size + 1 + 1 + 1 + 1 + 1 + 1 + 1) o8 := by
    have q := Blk.new z7 o8
    try simp only [World.size_alloc] at q
    exact q
  have q0 := q0.later (Ext.of_made k7)
  have q1 := q1.later (Ext.of_made k7)
  have q2 := q2.later (Ext.of_made k7)
  have q3 := q3.later (Ext.of_made k7)
  have q4 := q4.later (Ext.of_made k7)
  have q5 := q5.later (Ext.of_made k7)
  have q6 := q6.later (Ext.of_made k7)
  exact ⟨m8, hz.later m8.size, q0, q1, q2, q3, q4, q5, q6, q7⟩
theorem ends_keep {n : Nat} {w w2 : World} {Z : Zone} {c : Int} {e : Ending} {k : Nat} {v : Value} {t : TypeId} (h : Blk w Z k (.cells #[v] t (0, 0))) (he : EndsIn a b n w Z c Q e w2) : w2.cell? ⟨k, 0, none⟩ = some v := h.ends he
set_option maxRecDepth 100000 in
set_option maxHeartbeats 2000000 in
/-- mark. -/
theorem mark_w {n lv sl set bk : Nat} {f : FuncId} {cap : Array Value} {w : World} {Z : Zone} {c : Int} {xs : List Int} (hA : Arena w a b c xs) (hZ : ZOk a b w Z) (hE : Env w Z bl bs L S) (hlv : lv < L) (hsl : sl < S) (hset : set < 2 ^ 64) (hi : 1 + lv < xs.length) (hx : xs.getD (1 + lv) 0 = (set : Int)) (hc : c + 2 < 4611686018427387904)
    (h5 : Blk w Z bk (OI sl)) (ht : Takes0 a b n f cap w Z (c + 1 + 1) (xs.set (1 + lv) (addI set sl : Nat)) Q) :
    Calls Try.prog 101 #[.agg (WV a bl bs L B), .int .i64 (lv : Int), .func (.func 102) #[] #[.pointer (some ⟨bk, 0, none⟩)], .func (.func f) #[] cap] w (EndsIn a b (n + 2) w Z c Q) := by
  obtain ⟨hm, hz4, q1, q2, q3, q4⟩ := boxes4 hZ (OW a bl bs L B) (OI lv) (OT 102 #[.pointer (some ⟨bk, 0, none⟩)]) (OF f cap)
  obtain ⟨w4, hw4⟩ : ∃ w4, w4 = (((w.alloc (OW a bl bs L B)).alloc (OI lv)).alloc (OT 102 #[.pointer (some ⟨bk, 0, none⟩)])).alloc (OF f cap) := ⟨_, rfl⟩
  rw [← hw4] at hm hz4 q1 q2 q3 q4
  have HW := Lib.hid hw4
  clear hw4
  obtain ⟨c0, _, _, _, c4, _, _⟩ := wv_cells q1
  have d2 := q2.cell
  have d3 := q3.cell
  have d4 := q4.cell
  have hd : Made w4 w4.drew := Made.drewN w4 1
  have hwd : Made w w4.drew := Made.trans hm hd
  have hwk := Work.of_made hZ hwd
  have HM := Lib.hid (Map_w lv (by have := hE.l5; omega) w4.drew)
  have hzd := hZ.later hwd.size
  have hEd := hE.later (Ext.of_made hwd)
  have htd := ht.later (Btw.of_made hZ hwd).mid
  have p1 := q1.later (Ext.of_made hd)
  have p2 := q2.later (Ext.of_made hd)
  have p3 := q3.later (Ext.of_made hd)
  have p4 := q4.later (Ext.of_made hd)
  have p5 := h5.later (Ext.of_made hwd)
  have HS : Hid (Calls Try.prog 42 #[.pointer (some ⟨a, 0, none⟩), .int .i64 ((1 + lv : Nat) : Int), .func (.func 124) #[] #[.pointer (some ⟨w.heap.size, 0, none⟩), .pointer (some ⟨w.heap.size + 1, 0, none⟩), .pointer (some ⟨w.heap.size + 1 + 1, 0, none⟩), .pointer (some ⟨w.heap.size + 1 + 1 + 1, 0, none⟩)]] w4.drew (fun e w2 => EndsIn a b (n + 2) w Z c Q e w2 ∧ (w2.cell? ⟨w.heap.size, 0, none⟩ = some (.pointer (some ⟨a, 0, none⟩)) ∧ w2.cell? ⟨w.heap.size, 4, none⟩ = some (.func (.func 59) #[] #[]) ∧ w2.cell? ⟨w.heap.size + 1, 0, none⟩ = some (.int .i64 (lv : Int))) ∧ ∃ v, e = .returned v)) := by
    refine (Load_s (hA.later hwd) hzd (by omega) hi (enters_of Try.func124 (by kernel_rfl) rfl) (n := n + 1) (Q := Q) ?_).mono ?_
    · intro w' Z' m1 hz1 hA1
      rw [hx]
      exact mark1_w hA1 hz1 (hEd.later m1.ext) hlv hsl hset hi (by omega) (p1.later m1.ext) (p2.later m1.ext) (p3.later m1.ext) (p4.later m1.ext) (p5.later m1.ext) (htd.later m1)
    · intro e w2 he
      obtain ⟨Z2, g1⟩ := blk_ends p1 he
      obtain ⟨k0, _, _, _, k4, _, _⟩ := wv_cells g1
      exact ⟨he.pre hwk, ⟨k0, k4, p2.ends he⟩, he.value⟩
  have hmf := makeFunc_run
  clear hA hZ hE h5 ht hd hwk hm hz4 q1 q2 q3 q4 hwd hzd hEd htd p1 p2 p3 p4 p5 d3 d4 hx
  go_enter Try.func101, Try.ntmps101
  go_wp2_with fail
  rw [← HW.out]
  go_region_held3 (fun w2 => w2.cell? ⟨w.heap.size, 0, none⟩ = some (.pointer (some ⟨a, 0, none⟩)) ∧ w2.cell? ⟨w.heap.size, 4, none⟩ = some (.func (.func 59) #[] #[]) ∧ w2.cell? ⟨w.heap.size + 1, 0, none⟩ = some (.int .i64 (lv : Int))) (first | assumption | (refine ⟨?_, ?_, ?_⟩ <;> first | assumption | simpa using c0 | simpa using c4 | simpa using d2)) (first | (go_at_call 59; refine HM.out.mono ?_; rintro e w' ⟨rfl, rfl⟩) | (go_at_call 42; refine HS.out.mono ?_; rintro e w3 ⟨he, hk, v, rfl⟩))
  all_goals
    go_wp2_with fail
    go_ret
    exact he
end Go.Proofs.Ytndpkonihcebeaa.Whl
