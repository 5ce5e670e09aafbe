/- Work that is cut into steps, one task alone: the makers of steps. -/
import Derived.Test.YtndpkonihcebeaaSeq
namespace Go.Proofs.Ytndpkonihcebeaa.Seq
open Go.RowKit Go.Proofs.Ytndpkonihcebeaa Go.Proofs.Ytndpkonihcebeaa.Cell
set_option linter.unusedVariables false
set_option linter.unusedSimpArgs false
variable {a b : Nat}
theorem Load_acc {w : World} {c : Int} {xs : List Int} (h : Arena w a b c xs) (h1 : c + 1 < 4611686018427387904) (i : Nat) (hi : i < xs.length) :
    Calls Try.prog 78 #[.pointer (some ⟨a, 0, none⟩), .int .i64 (i : Int)] w fun e w' => e = .returned (.int .u64 (xs.getD i 0)) ∧ Arena w' a b (c + 1) xs ∧ Turned a b w w' := by
  have hh := Load_yes h h1 i hi
  simpa [List.getD, hi] using hh
set_option maxRecDepth 100000 in
set_option maxHeartbeats 1000000 in
theorem Load_run {n i f : Nat} {c : Int} {xs : List Int} {cap : Array Value} {w : World} {Z : Zone} {Q : World → Zone → Int → Prop} {b1 b2 b3 : Nat} (hA : Arena w a b c xs) (hZ : ZOk a b w Z) (hc : c + 1 < 4611686018427387904) (hi : i < xs.length) (hf : Enters Try.prog f)
    (ht : ∀ w' Z', Mid a b w Z w' Z' → ZOk a b w' Z' → Arena w' a b (c + 1) xs → Calls Try.prog f (#[.int .u64 (xs.getD i 0)] ++ cap) w' (EndsIn a b n w' Z' (c + 1) Q))
    (h1 : Blk w Z b1 (.cells #[.func (.func f) #[] cap] 106 (0, 0))) (h2 : Blk w Z b2 (.cells #[.pointer (some ⟨a, 0, none⟩)] 25 (0, 0))) (h3 : Blk w Z b3 (.cells #[.int .i64 (i : Int)] 3 (0, 0))) :
    ∀ w1 Z1, Btw w Z w1 Z1 → ZOk a b w1 Z1 → Calls Try.prog 77 #[.pointer (some ⟨b1, 0, none⟩), .pointer (some ⟨b2, 0, none⟩), .pointer (some ⟨b3, 0, none⟩)] w1 (StepTo a b n w1 Z1 c Q) := by
  intro w1 Z1 hb hZ1
  have g1 := h1.later hb.ext
  have c1 := g1.cell
  have g2 := h2.later hb.ext
  have c2 := g2.cell
  have g3 := h3.later hb.ext
  have c3 := g3.cell
  have hA1 := Arena.btw hZ hA hb
  have HL : Hid (Calls Try.prog 78 #[.pointer (some ⟨a, 0, none⟩), .int .i64 (i : Int)] w1.drew fun e w2 => e = .returned (.int .u64 (xs.getD i 0)) ∧ Hid (Calls Try.prog f (#[.int .u64 (xs.getD i 0)] ++ cap) w2 (fun e w3 => EndsIn a b n w2 Z1 (c + 1) Q e w3 ∧ StepTo a b n w1 Z1 c Q e w3)) ∧ w2.cell? ⟨b1, 0, none⟩ = some (.func (.func f) #[] cap) ∧ w2.cell? ⟨b2, 0, none⟩ = some (.pointer (some ⟨a, 0, none⟩)) ∧ w2.cell? ⟨b3, 0, none⟩ = some (.int .i64 (i : Int)) ∧ Hid (Blk w2 Z1 b1 (.cells #[.func (.func f) #[] cap] 106 (0, 0)) ∧ Blk w2 Z1 b2 (.cells #[.pointer (some ⟨a, 0, none⟩)] 25 (0, 0)) ∧ Blk w2 Z1 b3 (.cells #[.int .i64 (i : Int)] 3 (0, 0)))) := by
    have hm1 : Made w1 w1.drew := (Made.drewN w1 1)
    refine (Load_acc (hA1.later hm1) hc i hi).mono ?_
    rintro e w2 ⟨he, h5, h6⟩
    have hz1 := hZ1.later (w' := w1.drew) (Nat.le_refl _)
    have hm : Mid a b w1 Z1 w2 Z1 := (Btw.of_made hZ1 hm1).mid.trans (Mid.of_turned hz1 h6)
    have hw : Work w1 Z1 w2 Z1 := (Work.of_made hZ1 hm1).trans (Work.of_turned hz1 h6)
    exact ⟨he, (ht w2 Z1 (hb.mid.trans hm) (hZ1.later hm.ext.size) h5).mono fun e w3 h => ⟨h, h.step hw⟩, (g1.later hm.ext).cell, (g2.later hm.ext).cell, (g3.later hm.ext).cell, g1.later hm.ext, g2.later hm.ext, g3.later hm.ext⟩
  have hen : ∀ (args : Array Value) (w : World), (callFunc f args).run Try.prog w = .ok (.enter f args) w := hf
  have HG : Hid (∀ (w3 : World) e w2, Blk w3 Z1 b1 (.cells #[.func (.func f) #[] cap] 106 (0, 0)) ∧ Blk w3 Z1 b2 (.cells #[.pointer (some ⟨a, 0, none⟩)] 25 (0, 0)) ∧ Blk w3 Z1 b3 (.cells #[.int .i64 (i : Int)] 3 (0, 0)) → EndsIn a b n w3 Z1 (c + 1) Q e w2 → w2.cell? ⟨b1, 0, none⟩ = some (.func (.func f) #[] cap) ∧ w2.cell? ⟨b2, 0, none⟩ = some (.pointer (some ⟨a, 0, none⟩)) ∧ w2.cell? ⟨b3, 0, none⟩ = some (.int .i64 (i : Int)) ∧ ∃ v, e = .returned v) :=
    fun w3 e w2 h he => ⟨h.1.ends he, h.2.1.ends he, h.2.2.ends he, he.value⟩
  clear ht h1 g1 h2 g2 h3 g3 hb hA hA1 hZ hZ1 hi
  generalize xs.getD i 0 = x at *
  go_enter Try.func77, Try.ntmps77
  go_wp2_with fail
  go_region_held3 (fun w1 => w1.cell? ⟨b1, 0, none⟩ = some (.func (.func f) #[] cap) ∧ w1.cell? ⟨b2, 0, none⟩ = some (.pointer (some ⟨a, 0, none⟩)) ∧ w1.cell? ⟨b3, 0, none⟩ = some (.int .i64 (i : Int))) (first | (refine ⟨?_, ?_, ?_⟩ <;> first | assumption | simpa using c1 | simpa using c2 | simpa using c3)) (first | (go_at_call 78; refine HL.out.mono ?_; rintro e w2 ⟨rfl, HC2, d1, d2, d3, HB2⟩) | (refine HC2.out.mono ?_; rintro e w3 ⟨hg0, hg⟩; obtain ⟨e1, e2, e3, v, rfl⟩ := HG.out _ _ _ HB2.out hg0; clear hg0))
  go_wp2_with fail
  go_ret
  exact hg
set_option maxRecDepth 100000 in
set_option maxHeartbeats 1000000 in
theorem Load_s {n i f : Nat} {c : Int} {xs : List Int} {cap : Array Value} {w : World} {Z : Zone} {Q : World → Zone → Int → Prop} (hA : Arena w a b c xs) (hZ : ZOk a b w Z) (hc : c + 1 < 4611686018427387904) (hi : i < xs.length) (hf : Enters Try.prog f)
    (ht : ∀ w' Z', Mid a b w Z w' Z' → ZOk a b w' Z' → Arena w' a b (c + 1) xs → Calls Try.prog f (#[.int .u64 (xs.getD i 0)] ++ cap) w' (EndsIn a b n w' Z' (c + 1) Q)) :
    Calls Try.prog 42 #[.pointer (some ⟨a, 0, none⟩), .int .i64 (i : Int), .func (.func f) #[] cap] w (EndsIn a b (n + 1) w Z c Q) := by
  have HR : Hid (EndsIn a b (n + 1) w Z c Q (.returned (.func (.func 77) #[] #[.pointer (some ⟨w.heap.size + 1 + 1, 0, none⟩), .pointer (some ⟨w.heap.size, 0, none⟩), .pointer (some ⟨w.heap.size + 1, 0, none⟩)])) (((w.alloc (.cells #[.pointer (some ⟨a, 0, none⟩)] 25)).alloc (.cells #[.int .i64 (i : Int)] 3)).alloc (.cells #[.func (.func f) #[] cap] 106))) := by
    have m0 : Made w (w.alloc (.cells #[.pointer (some ⟨a, 0, none⟩)] 25)) := (Made.refl _).alloc (Nat.le_refl _) _
    have m1 : Made (w.alloc (.cells #[.pointer (some ⟨a, 0, none⟩)] 25)) ((w.alloc (.cells #[.pointer (some ⟨a, 0, none⟩)] 25)).alloc (.cells #[.int .i64 (i : Int)] 3)) := (Made.refl _).alloc (Nat.le_refl _) _
    have m2 : Made ((w.alloc (.cells #[.pointer (some ⟨a, 0, none⟩)] 25)).alloc (.cells #[.int .i64 (i : Int)] 3)) (((w.alloc (.cells #[.pointer (some ⟨a, 0, none⟩)] 25)).alloc (.cells #[.int .i64 (i : Int)] 3)).alloc (.cells #[.func (.func f) #[] cap] 106)) := (Made.refl _).alloc (Nat.le_refl _) _
    have q0 : Blk (w.alloc (.cells #[.pointer (some ⟨a, 0, none⟩)] 25)) Z (w.heap.size) (.cells #[.pointer (some ⟨a, 0, none⟩)] 25 (0, 0)) := by
      have q := Blk.new hZ (.cells #[.pointer (some ⟨a, 0, none⟩)] 25)
      try simp only [World.size_alloc] at q
      exact q
    have q1 : Blk ((w.alloc (.cells #[.pointer (some ⟨a, 0, none⟩)] 25)).alloc (.cells #[.int .i64 (i : Int)] 3)) Z (w.heap.size + 1) (.cells #[.int .i64 (i : Int)] 3 (0, 0)) := by
      have q := Blk.new (hZ.later (w' := (w.alloc (.cells #[.pointer (some ⟨a, 0, none⟩)] 25))) (by simp only [World.size_alloc]; omega)) (.cells #[.int .i64 (i : Int)] 3)
      try simp only [World.size_alloc] at q
      exact q
    have q0 := q0.later (Ext.of_made m1)
    have q2 : Blk (((w.alloc (.cells #[.pointer (some ⟨a, 0, none⟩)] 25)).alloc (.cells #[.int .i64 (i : Int)] 3)).alloc (.cells #[.func (.func f) #[] cap] 106)) Z (w.heap.size + 1 + 1) (.cells #[.func (.func f) #[] cap] 106 (0, 0)) := by
      have q := Blk.new (hZ.later (w' := ((w.alloc (.cells #[.pointer (some ⟨a, 0, none⟩)] 25)).alloc (.cells #[.int .i64 (i : Int)] 3))) (by simp only [World.size_alloc]; omega)) (.cells #[.func (.func f) #[] cap] 106)
      try simp only [World.size_alloc] at q
      exact q
    have q0 := q0.later (Ext.of_made m2)
    have q1 := q1.later (Ext.of_made m2)
    have hm := (Made.trans (Made.trans m0 m1) m2)
    have hb := Btw.of_made hZ hm
    have hZ2 := hZ.later hm.size
    have hA2 := hA.later hm
    refine ⟨_, Z, rfl, Work.of_made hZ hm, hZ2, Cnt.of hA2, Or.inr ⟨_, _, rfl, enters_of Try.func77 (by kernel_rfl) rfl, ?_⟩⟩
    exact Load_run hA2 hZ2 hc hi hf (fun w' Z' h1 h2 h3 => ht w' Z' (hb.mid.trans h1) h2 h3) q2 q0 q1
  have hmf : ∀ (fn : Fn) (first cap : Array Value) (w : World), (Instr.makeFunc fn first cap).run Try.prog w = .ok (.func fn first cap) w := fun _ _ _ _ => rfl
  clear ht hA hZ hc hi hf
  go_enter Try.func42, Try.ntmps42
  go_wp2_with fail
  go_ret
  exact HR.out
theorem Store_acc {w : World} {c : Int} {xs : List Int} (h : Arena w a b c xs) (h1 : c + 1 < 4611686018427387904) (i : Nat) (v : Int) (hi : i < xs.length) :
    Calls Try.prog 23 #[.pointer (some ⟨a, 0, none⟩), .int .i64 (i : Int), .int .u64 v] w fun e w' => e = .returned (.bool true) ∧ Arena w' a b (c + 1) (xs.set i v) ∧ Turned a b w w' := by
  have hh := Store_yes h h1 i v hi
  simpa [List.getD, hi] using hh
set_option maxRecDepth 100000 in
set_option maxHeartbeats 1000000 in
theorem Store_run {n i f : Nat} {c v : Int} {xs : List Int} {cap : Array Value} {w : World} {Z : Zone} {Q : World → Zone → Int → Prop} {b1 b2 b3 b4 : Nat} (hA : Arena w a b c xs) (hZ : ZOk a b w Z) (hc : c + 1 < 4611686018427387904) (hi : i < xs.length) (hf : Enters Try.prog f)
    (ht : ∀ w' Z', Mid a b w Z w' Z' → ZOk a b w' Z' → Arena w' a b (c + 1) (xs.set i v) → Calls Try.prog f (cap) w' (EndsIn a b n w' Z' (c + 1) Q))
    (h1 : Blk w Z b1 (.cells #[.pointer (some ⟨a, 0, none⟩)] 25 (0, 0))) (h2 : Blk w Z b2 (.cells #[.int .i64 (i : Int)] 3 (0, 0))) (h3 : Blk w Z b3 (.cells #[.int .u64 v] 58 (0, 0))) (h4 : Blk w Z b4 (.cells #[.func (.func f) #[] cap] 39 (0, 0))) :
    ∀ w1 Z1, Btw w Z w1 Z1 → ZOk a b w1 Z1 → Calls Try.prog 123 #[.pointer (some ⟨b1, 0, none⟩), .pointer (some ⟨b2, 0, none⟩), .pointer (some ⟨b3, 0, none⟩), .pointer (some ⟨b4, 0, none⟩)] w1 (StepTo a b n w1 Z1 c Q) := by
  intro w1 Z1 hb hZ1
  have g1 := h1.later hb.ext
  have c1 := g1.cell
  have g2 := h2.later hb.ext
  have c2 := g2.cell
  have g3 := h3.later hb.ext
  have c3 := g3.cell
  have g4 := h4.later hb.ext
  have c4 := g4.cell
  have hA1 := Arena.btw hZ hA hb
  have HL : Hid (Calls Try.prog 23 #[.pointer (some ⟨a, 0, none⟩), .int .i64 (i : Int), .int .u64 v] w1 fun e w2 => e = .returned (.bool true) ∧ Hid (Calls Try.prog f (cap) w2 (fun e w3 => EndsIn a b n w2 Z1 (c + 1) Q e w3 ∧ StepTo a b n w1 Z1 c Q e w3)) ∧ w2.cell? ⟨b1, 0, none⟩ = some (.pointer (some ⟨a, 0, none⟩)) ∧ w2.cell? ⟨b2, 0, none⟩ = some (.int .i64 (i : Int)) ∧ w2.cell? ⟨b3, 0, none⟩ = some (.int .u64 v) ∧ w2.cell? ⟨b4, 0, none⟩ = some (.func (.func f) #[] cap) ∧ Hid (Blk w2 Z1 b1 (.cells #[.pointer (some ⟨a, 0, none⟩)] 25 (0, 0)) ∧ Blk w2 Z1 b2 (.cells #[.int .i64 (i : Int)] 3 (0, 0)) ∧ Blk w2 Z1 b3 (.cells #[.int .u64 v] 58 (0, 0)) ∧ Blk w2 Z1 b4 (.cells #[.func (.func f) #[] cap] 39 (0, 0)))) := by
    have hm1 : Made w1 w1 := (Made.refl w1)
    refine (Store_acc (hA1.later hm1) hc i v hi).mono ?_
    rintro e w2 ⟨he, h5, h6⟩
    have hz1 := hZ1.later (w' := w1) (Nat.le_refl _)
    have hm : Mid a b w1 Z1 w2 Z1 := (Btw.of_made hZ1 hm1).mid.trans (Mid.of_turned hz1 h6)
    have hw : Work w1 Z1 w2 Z1 := (Work.of_made hZ1 hm1).trans (Work.of_turned hz1 h6)
    exact ⟨he, (ht w2 Z1 (hb.mid.trans hm) (hZ1.later hm.ext.size) h5).mono fun e w3 h => ⟨h, h.step hw⟩, (g1.later hm.ext).cell, (g2.later hm.ext).cell, (g3.later hm.ext).cell, (g4.later hm.ext).cell, g1.later hm.ext, g2.later hm.ext, g3.later hm.ext, g4.later hm.ext⟩
  have hen : ∀ (args : Array Value) (w : World), (callFunc f args).run Try.prog w = .ok (.enter f args) w := hf
  have HG : Hid (∀ (w3 : World) e w2, Blk w3 Z1 b1 (.cells #[.pointer (some ⟨a, 0, none⟩)] 25 (0, 0)) ∧ Blk w3 Z1 b2 (.cells #[.int .i64 (i : Int)] 3 (0, 0)) ∧ Blk w3 Z1 b3 (.cells #[.int .u64 v] 58 (0, 0)) ∧ Blk w3 Z1 b4 (.cells #[.func (.func f) #[] cap] 39 (0, 0)) → EndsIn a b n w3 Z1 (c + 1) Q e w2 → w2.cell? ⟨b1, 0, none⟩ = some (.pointer (some ⟨a, 0, none⟩)) ∧ w2.cell? ⟨b2, 0, none⟩ = some (.int .i64 (i : Int)) ∧ w2.cell? ⟨b3, 0, none⟩ = some (.int .u64 v) ∧ w2.cell? ⟨b4, 0, none⟩ = some (.func (.func f) #[] cap) ∧ ∃ v, e = .returned v) :=
    fun w3 e w2 h he => ⟨h.1.ends he, h.2.1.ends he, h.2.2.1.ends he, h.2.2.2.ends he, he.value⟩
  clear ht h1 g1 h2 g2 h3 g3 h4 g4 hb hA hA1 hZ hZ1 hi
  go_enter Try.func123, Try.ntmps123
  go_wp2_with fail
  refine HL.out.mono ?_
  rintro e w2 ⟨rfl, HC2, d1, d2, d3, d4, HB2⟩
  go_wp2_with fail
  refine HC2.out.mono ?_
  rintro e w3 ⟨hg0, hg⟩
  obtain ⟨e1, e2, e3, e4, v, rfl⟩ := HG.out _ _ _ HB2.out hg0
  clear hg0
  go_wp2_with fail
  go_ret
  exact hg
set_option maxRecDepth 100000 in
set_option maxHeartbeats 1000000 in
theorem Store_s {n i f : Nat} {c v : Int} {xs : List Int} {cap : Array Value} {w : World} {Z : Zone} {Q : World → Zone → Int → Prop} (hA : Arena w a b c xs) (hZ : ZOk a b w Z) (hc : c + 1 < 4611686018427387904) (hi : i < xs.length) (hf : Enters Try.prog f)
    (ht : ∀ w' Z', Mid a b w Z w' Z' → ZOk a b w' Z' → Arena w' a b (c + 1) (xs.set i v) → Calls Try.prog f (cap) w' (EndsIn a b n w' Z' (c + 1) Q)) :
    Calls Try.prog 98 #[.pointer (some ⟨a, 0, none⟩), .int .i64 (i : Int), .int .u64 v, .func (.func f) #[] cap] w (EndsIn a b (n + 1) w Z c Q) := by
  have HR : Hid (EndsIn a b (n + 1) w Z c Q (.returned (.func (.func 123) #[] #[.pointer (some ⟨w.heap.size, 0, none⟩), .pointer (some ⟨w.heap.size + 1, 0, none⟩), .pointer (some ⟨w.heap.size + 1 + 1, 0, none⟩), .pointer (some ⟨w.heap.size + 1 + 1 + 1, 0, none⟩)])) ((((w.alloc (.cells #[.pointer (some ⟨a, 0, none⟩)] 25)).alloc (.cells #[.int .i64 (i : Int)] 3)).alloc (.cells #[.int .u64 v] 58)).alloc (.cells #[.func (.func f) #[] cap] 39))) := by
    have m0 : Made w (w.alloc (.cells #[.pointer (some ⟨a, 0, none⟩)] 25)) := (Made.refl _).alloc (Nat.le_refl _) _
    have m1 : Made (w.alloc (.cells #[.pointer (some ⟨a, 0, none⟩)] 25)) ((w.alloc (.cells #[.pointer (some ⟨a, 0, none⟩)] 25)).alloc (.cells #[.int .i64 (i : Int)] 3)) := (Made.refl _).alloc (Nat.le_refl _) _
    have m2 : Made ((w.alloc (.cells #[.pointer (some ⟨a, 0, none⟩)] 25)).alloc (.cells #[.int .i64 (i : Int)] 3)) (((w.alloc (.cells #[.pointer (some ⟨a, 0, none⟩)] 25)).alloc (.cells #[.int .i64 (i : Int)] 3)).alloc (.cells #[.int .u64 v] 58)) := (Made.refl _).alloc (Nat.le_refl _) _
    have m3 : Made (((w.alloc (.cells #[.pointer (some ⟨a, 0, none⟩)] 25)).alloc (.cells #[.int .i64 (i : Int)] 3)).alloc (.cells #[.int .u64 v] 58)) ((((w.alloc (.cells #[.pointer (some ⟨a, 0, none⟩)] 25)).alloc (.cells #[.int .i64 (i : Int)] 3)).alloc (.cells #[.int .u64 v] 58)).alloc (.cells #[.func (.func f) #[] cap] 39)) := (Made.refl _).alloc (Nat.le_refl _) _
    have q0 : Blk (w.alloc (.cells #[.pointer (some ⟨a, 0, none⟩)] 25)) Z (w.heap.size) (.cells #[.pointer (some ⟨a, 0, none⟩)] 25 (0, 0)) := by
      have q := Blk.new hZ (.cells #[.pointer (some ⟨a, 0, none⟩)] 25)
      try simp only [World.size_alloc] at q
      exact q
    have q1 : Blk ((w.alloc (.cells #[.pointer (some ⟨a, 0, none⟩)] 25)).alloc (.cells #[.int .i64 (i : Int)] 3)) Z (w.heap.size + 1) (.cells #[.int .i64 (i : Int)] 3 (0, 0)) := by
      have q := Blk.new (hZ.later (w' := (w.alloc (.cells #[.pointer (some ⟨a, 0, none⟩)] 25))) (by simp only [World.size_alloc]; omega)) (.cells #[.int .i64 (i : Int)] 3)
      try simp only [World.size_alloc] at q
      exact q
    have q0 := q0.later (Ext.of_made m1)
    have q2 : Blk (((w.alloc (.cells #[.pointer (some ⟨a, 0, none⟩)] 25)).alloc (.cells #[.int .i64 (i : Int)] 3)).alloc (.cells #[.int .u64 v] 58)) Z (w.heap.size + 1 + 1) (.cells #[.int .u64 v] 58 (0, 0)) := by
      have q := Blk.new (hZ.later (w' := ((w.alloc (.cells #[.pointer (some ⟨a, 0, none⟩)] 25)).alloc (.cells #[.int .i64 (i : Int)] 3))) (by simp only [World.size_alloc]; omega)) (.cells #[.int .u64 v] 58)
      try simp only [World.size_alloc] at q
      exact q
    have q0 := q0.later (Ext.of_made m2)
    have q1 := q1.later (Ext.of_made m2)
    have q3 : Blk ((((w.alloc (.cells #[.pointer (some ⟨a, 0, none⟩)] 25)).alloc (.cells #[.int .i64 (i : Int)] 3)).alloc (.cells #[.int .u64 v] 58)).alloc (.cells #[.func (.func f) #[] cap] 39)) Z (w.heap.size + 1 + 1 + 1) (.cells #[.func (.func f) #[] cap] 39 (0, 0)) := by
      have q := Blk.new (hZ.later (w' := (((w.alloc (.cells #[.pointer (some ⟨a, 0, none⟩)] 25)).alloc (.cells #[.int .i64 (i : Int)] 3)).alloc (.cells #[.int .u64 v] 58))) (by simp only [World.size_alloc]; omega)) (.cells #[.func (.func f) #[] cap] 39)
      try simp only [World.size_alloc] at q
      exact q
    have q0 := q0.later (Ext.of_made m3)
    have q1 := q1.later (Ext.of_made m3)
    have q2 := q2.later (Ext.of_made m3)
    have hm := (Made.trans (Made.trans (Made.trans m0 m1) m2) m3)
    have hb := Btw.of_made hZ hm
    have hZ2 := hZ.later hm.size
    have hA2 := hA.later hm
    refine ⟨_, Z, rfl, Work.of_made hZ hm, hZ2, Cnt.of hA2, Or.inr ⟨_, _, rfl, enters_of Try.func123 (by kernel_rfl) rfl, ?_⟩⟩
    exact Store_run hA2 hZ2 hc hi hf (fun w' Z' h1 h2 h3 => ht w' Z' (hb.mid.trans h1) h2 h3) q0 q1 q2 q3
  have hmf : ∀ (fn : Fn) (first cap : Array Value) (w : World), (Instr.makeFunc fn first cap).run Try.prog w = .ok (.func fn first cap) w := fun _ _ _ _ => rfl
  clear ht hA hZ hc hi hf
  go_enter Try.func98, Try.ntmps98
  go_wp2_with fail
  go_ret
  exact HR.out
theorem Swap_acc {w : World} {c : Int} {xs : List Int} (h : Arena w a b c xs) (h1 : c + 1 < 4611686018427387904) (i : Nat) (v : Int) (hi : i < xs.length) :
    Calls Try.prog 154 #[.pointer (some ⟨a, 0, none⟩), .int .i64 (i : Int), .int .u64 v] w fun e w' => e = .returned (.int .u64 (xs.getD i 0)) ∧ Arena w' a b (c + 1) (xs.set i v) ∧ Turned a b w w' := by
  have hh := Swap_yes h h1 i v hi
  simpa [List.getD, hi] using hh
set_option maxRecDepth 100000 in
set_option maxHeartbeats 1000000 in
theorem Swap_run {n i f : Nat} {c v : Int} {xs : List Int} {cap : Array Value} {w : World} {Z : Zone} {Q : World → Zone → Int → Prop} {b1 b2 b3 b4 : Nat} (hA : Arena w a b c xs) (hZ : ZOk a b w Z) (hc : c + 1 < 4611686018427387904) (hi : i < xs.length) (hf : Enters Try.prog f)
    (ht : ∀ w' Z', Mid a b w Z w' Z' → ZOk a b w' Z' → Arena w' a b (c + 1) (xs.set i v) → Calls Try.prog f (#[.int .u64 (xs.getD i 0)] ++ cap) w' (EndsIn a b n w' Z' (c + 1) Q))
    (h1 : Blk w Z b1 (.cells #[.func (.func f) #[] cap] 106 (0, 0))) (h2 : Blk w Z b2 (.cells #[.pointer (some ⟨a, 0, none⟩)] 25 (0, 0))) (h3 : Blk w Z b3 (.cells #[.int .i64 (i : Int)] 3 (0, 0))) (h4 : Blk w Z b4 (.cells #[.int .u64 v] 58 (0, 0))) :
    ∀ w1 Z1, Btw w Z w1 Z1 → ZOk a b w1 Z1 → Calls Try.prog 153 #[.pointer (some ⟨b1, 0, none⟩), .pointer (some ⟨b2, 0, none⟩), .pointer (some ⟨b3, 0, none⟩), .pointer (some ⟨b4, 0, none⟩)] w1 (StepTo a b n w1 Z1 c Q) := by
  intro w1 Z1 hb hZ1
  have g1 := h1.later hb.ext
  have c1 := g1.cell
  have g2 := h2.later hb.ext
  have c2 := g2.cell
  have g3 := h3.later hb.ext
  have c3 := g3.cell
  have g4 := h4.later hb.ext
  have c4 := g4.cell
  have hA1 := Arena.btw hZ hA hb
  have HL : Hid (Calls Try.prog 154 #[.pointer (some ⟨a, 0, none⟩), .int .i64 (i : Int), .int .u64 v] w1.drew fun e w2 => e = .returned (.int .u64 (xs.getD i 0)) ∧ Hid (Calls Try.prog f (#[.int .u64 (xs.getD i 0)] ++ cap) w2 (fun e w3 => EndsIn a b n w2 Z1 (c + 1) Q e w3 ∧ StepTo a b n w1 Z1 c Q e w3)) ∧ w2.cell? ⟨b1, 0, none⟩ = some (.func (.func f) #[] cap) ∧ w2.cell? ⟨b2, 0, none⟩ = some (.pointer (some ⟨a, 0, none⟩)) ∧ w2.cell? ⟨b3, 0, none⟩ = some (.int .i64 (i : Int)) ∧ w2.cell? ⟨b4, 0, none⟩ = some (.int .u64 v) ∧ Hid (Blk w2 Z1 b1 (.cells #[.func (.func f) #[] cap] 106 (0, 0)) ∧ Blk w2 Z1 b2 (.cells #[.pointer (some ⟨a, 0, none⟩)] 25 (0, 0)) ∧ Blk w2 Z1 b3 (.cells #[.int .i64 (i : Int)] 3 (0, 0)) ∧ Blk w2 Z1 b4 (.cells #[.int .u64 v] 58 (0, 0)))) := by
    have hm1 : Made w1 w1.drew := (Made.drewN w1 1)
    refine (Swap_acc (hA1.later hm1) hc i v hi).mono ?_
    rintro e w2 ⟨he, h5, h6⟩
    have hz1 := hZ1.later (w' := w1.drew) (Nat.le_refl _)
    have hm : Mid a b w1 Z1 w2 Z1 := (Btw.of_made hZ1 hm1).mid.trans (Mid.of_turned hz1 h6)
    have hw : Work w1 Z1 w2 Z1 := (Work.of_made hZ1 hm1).trans (Work.of_turned hz1 h6)
    exact ⟨he, (ht w2 Z1 (hb.mid.trans hm) (hZ1.later hm.ext.size) h5).mono fun e w3 h => ⟨h, h.step hw⟩, (g1.later hm.ext).cell, (g2.later hm.ext).cell, (g3.later hm.ext).cell, (g4.later hm.ext).cell, g1.later hm.ext, g2.later hm.ext, g3.later hm.ext, g4.later hm.ext⟩
  have hen : ∀ (args : Array Value) (w : World), (callFunc f args).run Try.prog w = .ok (.enter f args) w := hf
  have HG : Hid (∀ (w3 : World) e w2, Blk w3 Z1 b1 (.cells #[.func (.func f) #[] cap] 106 (0, 0)) ∧ Blk w3 Z1 b2 (.cells #[.pointer (some ⟨a, 0, none⟩)] 25 (0, 0)) ∧ Blk w3 Z1 b3 (.cells #[.int .i64 (i : Int)] 3 (0, 0)) ∧ Blk w3 Z1 b4 (.cells #[.int .u64 v] 58 (0, 0)) → EndsIn a b n w3 Z1 (c + 1) Q e w2 → w2.cell? ⟨b1, 0, none⟩ = some (.func (.func f) #[] cap) ∧ w2.cell? ⟨b2, 0, none⟩ = some (.pointer (some ⟨a, 0, none⟩)) ∧ w2.cell? ⟨b3, 0, none⟩ = some (.int .i64 (i : Int)) ∧ w2.cell? ⟨b4, 0, none⟩ = some (.int .u64 v) ∧ ∃ v, e = .returned v) :=
    fun w3 e w2 h he => ⟨h.1.ends he, h.2.1.ends he, h.2.2.1.ends he, h.2.2.2.ends he, he.value⟩
  clear ht h1 g1 h2 g2 h3 g3 h4 g4 hb hA hA1 hZ hZ1 hi
  generalize xs.getD i 0 = x at *
  go_enter Try.func153, Try.ntmps153
  go_wp2_with fail
  go_region_held3 (fun w1 => w1.cell? ⟨b1, 0, none⟩ = some (.func (.func f) #[] cap) ∧ w1.cell? ⟨b2, 0, none⟩ = some (.pointer (some ⟨a, 0, none⟩)) ∧ w1.cell? ⟨b3, 0, none⟩ = some (.int .i64 (i : Int)) ∧ w1.cell? ⟨b4, 0, none⟩ = some (.int .u64 v)) (first | (refine ⟨?_, ?_, ?_, ?_⟩ <;> first | assumption | simpa using c1 | simpa using c2 | simpa using c3 | simpa using c4)) (first | (go_at_call 154; refine HL.out.mono ?_; rintro e w2 ⟨rfl, HC2, d1, d2, d3, d4, HB2⟩) | (refine HC2.out.mono ?_; rintro e w3 ⟨hg0, hg⟩; obtain ⟨e1, e2, e3, e4, v, rfl⟩ := HG.out _ _ _ HB2.out hg0; clear hg0))
  go_wp2_with fail
  go_ret
  exact hg
set_option maxRecDepth 100000 in
set_option maxHeartbeats 1000000 in
theorem Swap_s {n i f : Nat} {c v : Int} {xs : List Int} {cap : Array Value} {w : World} {Z : Zone} {Q : World → Zone → Int → Prop} (hA : Arena w a b c xs) (hZ : ZOk a b w Z) (hc : c + 1 < 4611686018427387904) (hi : i < xs.length) (hf : Enters Try.prog f)
    (ht : ∀ w' Z', Mid a b w Z w' Z' → ZOk a b w' Z' → Arena w' a b (c + 1) (xs.set i v) → Calls Try.prog f (#[.int .u64 (xs.getD i 0)] ++ cap) w' (EndsIn a b n w' Z' (c + 1) Q)) :
    Calls Try.prog 147 #[.pointer (some ⟨a, 0, none⟩), .int .i64 (i : Int), .int .u64 v, .func (.func f) #[] cap] w (EndsIn a b (n + 1) w Z c Q) := by
  have HR : Hid (EndsIn a b (n + 1) w Z c Q (.returned (.func (.func 153) #[] #[.pointer (some ⟨w.heap.size + 1 + 1 + 1, 0, none⟩), .pointer (some ⟨w.heap.size, 0, none⟩), .pointer (some ⟨w.heap.size + 1, 0, none⟩), .pointer (some ⟨w.heap.size + 1 + 1, 0, none⟩)])) ((((w.alloc (.cells #[.pointer (some ⟨a, 0, none⟩)] 25)).alloc (.cells #[.int .i64 (i : Int)] 3)).alloc (.cells #[.int .u64 v] 58)).alloc (.cells #[.func (.func f) #[] cap] 106))) := by
    have m0 : Made w (w.alloc (.cells #[.pointer (some ⟨a, 0, none⟩)] 25)) := (Made.refl _).alloc (Nat.le_refl _) _
    have m1 : Made (w.alloc (.cells #[.pointer (some ⟨a, 0, none⟩)] 25)) ((w.alloc (.cells #[.pointer (some ⟨a, 0, none⟩)] 25)).alloc (.cells #[.int .i64 (i : Int)] 3)) := (Made.refl _).alloc (Nat.le_refl _) _
    have m2 : Made ((w.alloc (.cells #[.pointer (some ⟨a, 0, none⟩)] 25)).alloc (.cells #[.int .i64 (i : Int)] 3)) (((w.alloc (.cells #[.pointer (some ⟨a, 0, none⟩)] 25)).alloc (.cells #[.int .i64 (i : Int)] 3)).alloc (.cells #[.int .u64 v] 58)) := (Made.refl _).alloc (Nat.le_refl _) _
    have m3 : Made (((w.alloc (.cells #[.pointer (some ⟨a, 0, none⟩)] 25)).alloc (.cells #[.int .i64 (i : Int)] 3)).alloc (.cells #[.int .u64 v] 58)) ((((w.alloc (.cells #[.pointer (some ⟨a, 0, none⟩)] 25)).alloc (.cells #[.int .i64 (i : Int)] 3)).alloc (.cells #[.int .u64 v] 58)).alloc (.cells #[.func (.func f) #[] cap] 106)) := (Made.refl _).alloc (Nat.le_refl _) _
    have q0 : Blk (w.alloc (.cells #[.pointer (some ⟨a, 0, none⟩)] 25)) Z (w.heap.size) (.cells #[.pointer (some ⟨a, 0, none⟩)] 25 (0, 0)) := by
      have q := Blk.new hZ (.cells #[.pointer (some ⟨a, 0, none⟩)] 25)
      try simp only [World.size_alloc] at q
      exact q
    have q1 : Blk ((w.alloc (.cells #[.pointer (some ⟨a, 0, none⟩)] 25)).alloc (.cells #[.int .i64 (i : Int)] 3)) Z (w.heap.size + 1) (.cells #[.int .i64 (i : Int)] 3 (0, 0)) := by
      have q := Blk.new (hZ.later (w' := (w.alloc (.cells #[.pointer (some ⟨a, 0, none⟩)] 25))) (by simp only [World.size_alloc]; omega)) (.cells #[.int .i64 (i : Int)] 3)
      try simp only [World.size_alloc] at q
      exact q
    have q0 := q0.later (Ext.of_made m1)
    have q2 : Blk (((w.alloc (.cells #[.pointer (some ⟨a, 0, none⟩)] 25)).alloc (.cells #[.int .i64 (i : Int)] 3)).alloc (.cells #[.int .u64 v] 58)) Z (w.heap.size + 1 + 1) (.cells #[.int .u64 v] 58 (0, 0)) := by
      have q := Blk.new (hZ.later (w' := ((w.alloc (.cells #[.pointer (some ⟨a, 0, none⟩)] 25)).alloc (.cells #[.int .i64 (i : Int)] 3))) (by simp only [World.size_alloc]; omega)) (.cells #[.int .u64 v] 58)
      try simp only [World.size_alloc] at q
      exact q
    have q0 := q0.later (Ext.of_made m2)
    have q1 := q1.later (Ext.of_made m2)
    have q3 : Blk ((((w.alloc (.cells #[.pointer (some ⟨a, 0, none⟩)] 25)).alloc (.cells #[.int .i64 (i : Int)] 3)).alloc (.cells #[.int .u64 v] 58)).alloc (.cells #[.func (.func f) #[] cap] 106)) Z (w.heap.size + 1 + 1 + 1) (.cells #[.func (.func f) #[] cap] 106 (0, 0)) := by
      have q := Blk.new (hZ.later (w' := (((w.alloc (.cells #[.pointer (some ⟨a, 0, none⟩)] 25)).alloc (.cells #[.int .i64 (i : Int)] 3)).alloc (.cells #[.int .u64 v] 58))) (by simp only [World.size_alloc]; omega)) (.cells #[.func (.func f) #[] cap] 106)
      try simp only [World.size_alloc] at q
      exact q
    have q0 := q0.later (Ext.of_made m3)
    have q1 := q1.later (Ext.of_made m3)
    have q2 := q2.later (Ext.of_made m3)
    have hm := (Made.trans (Made.trans (Made.trans m0 m1) m2) m3)
    have hb := Btw.of_made hZ hm
    have hZ2 := hZ.later hm.size
    have hA2 := hA.later hm
    refine ⟨_, Z, rfl, Work.of_made hZ hm, hZ2, Cnt.of hA2, Or.inr ⟨_, _, rfl, enters_of Try.func153 (by kernel_rfl) rfl, ?_⟩⟩
    exact Swap_run hA2 hZ2 hc hi hf (fun w' Z' h1 h2 h3 => ht w' Z' (hb.mid.trans h1) h2 h3) q3 q0 q1 q2
  have hmf : ∀ (fn : Fn) (first cap : Array Value) (w : World), (Instr.makeFunc fn first cap).run Try.prog w = .ok (.func fn first cap) w := fun _ _ _ _ => rfl
  clear ht hA hZ hc hi hf
  go_enter Try.func147, Try.ntmps147
  go_wp2_with fail
  go_ret
  exact HR.out
end Go.Proofs.Ytndpkonihcebeaa.Seq
