/- Work that is cut into steps, one task alone: what is told of code is what holds behind it. -/
import Derived.Test.YtndpkonihcebeaaCell3
import Derived.Shelf.Abstract
import Derived.Deep.RegionHeld3
namespace Go.Proofs.Ytndpkonihcebeaa.Seq
open Go.RowKit Go.Proofs.Ytndpkonihcebeaa Go.Proofs.Ytndpkonihcebeaa.Cell
set_option linter.unusedVariables false
set_option linter.unusedSimpArgs false

/-- Which blocks the code may turn, and which ones others may. -/
structure Zone where
  M : Nat → Prop
  T : Nat → Prop
/-- A later world: what nobody may turn has not turned. -/
structure Ext (w : World) (Z : Zone) (w' : World) (Z' : Zone) : Prop where
  os : w'.os = w.os
  tape : w'.tape = w.tape
  output : w'.output = w.output
  size : w.heap.size ≤ w'.heap.size
  block : ∀ k : Nat, k < w.heap.size → ¬ Z.M k → ¬ Z.T k → ¬ Z'.M k ∧ ¬ Z'.T k ∧ w'.heap[k]? = w.heap[k]?
theorem Ext.refl (w : World) (Z : Zone) : Ext w Z w Z := ⟨rfl, rfl, rfl, Nat.le_refl _, fun _ _ h1 h2 => ⟨h1, h2, rfl⟩⟩
theorem Ext.trans {u v w : World} {Z Z' Z'' : Zone} (h : Ext u Z v Z') (k : Ext v Z' w Z'') : Ext u Z w Z'' :=
  ⟨k.os.trans h.os, k.tape.trans h.tape, k.output.trans h.output, Nat.le_trans h.size k.size, fun i hi h1 h2 =>
    have g := h.block i hi h1 h2
    have g2 := k.block i (Nat.lt_of_lt_of_le hi h.size) g.1 g.2.1
    ⟨g2.1, g2.2.1, g2.2.2.trans g.2.2⟩⟩
theorem Ext.of_made {w w' : World} {Z : Zone} (h : Made w w') : Ext w Z w' Z := ⟨h.os, h.tape, h.output, h.size, fun k hk h1 h2 => ⟨h1, h2, h.block k hk⟩⟩
structure ZOk (a b : Nat) (w : World) (Z : Zone) : Prop where
  ma : Z.M a
  mb : Z.M b
  ml : ∀ k, Z.M k → k < w.heap.size
  tl : ∀ k, Z.T k → k < w.heap.size
  ap : ∀ k, Z.M k → ¬ Z.T k
theorem ZOk.later {a b : Nat} {w w' : World} {Z : Zone} (h : ZOk a b w Z) (hs : w.heap.size ≤ w'.heap.size) : ZOk a b w' Z :=
  ⟨h.ma, h.mb, fun k hk => Nat.lt_of_lt_of_le (h.ml k hk) hs, fun k hk => Nat.lt_of_lt_of_le (h.tl k hk) hs, h.ap⟩
/-- Between two steps: what the code may turn has not turned. -/
structure Btw (w : World) (Z : Zone) (w' : World) (Z' : Zone) : Prop where
  ext : Ext w Z w' Z'
  m : Z'.M = Z.M
  keep : ∀ k : Nat, Z.M k → w'.heap[k]? = w.heap[k]?
theorem Btw.refl (w : World) (Z : Zone) : Btw w Z w Z := ⟨Ext.refl _ _, rfl, fun _ _ => rfl⟩
theorem Btw.trans {u v w : World} {Z Z' Z'' : Zone} (h : Btw u Z v Z') (k : Btw v Z' w Z'') : Btw u Z w Z'' :=
  ⟨h.ext.trans k.ext, k.m.trans h.m, fun i hi => (k.keep i (by rw [h.m]; exact hi)).trans (h.keep i hi)⟩
/-- From code's making to behind its access: but the arena nothing that the code may turn has turned. -/
structure Mid (a b : Nat) (w : World) (Z : Zone) (w' : World) (Z' : Zone) : Prop where
  ext : Ext w Z w' Z'
  m : Z'.M = Z.M
  keep : ∀ k : Nat, Z.M k → k ≠ a → k ≠ b → w'.heap[k]? = w.heap[k]?
theorem Mid.trans {a b : Nat} {u v w : World} {Z Z' Z'' : Zone} (h : Mid a b u Z v Z') (k : Mid a b v Z' w Z'') : Mid a b u Z w Z'' :=
  ⟨h.ext.trans k.ext, k.m.trans h.m, fun i hi h1 h2 => (k.keep i (by rw [h.m]; exact hi) h1 h2).trans (h.keep i hi h1 h2)⟩
theorem Btw.mid {a b : Nat} {w w' : World} {Z Z' : Zone} (h : Btw w Z w' Z') : Mid a b w Z w' Z' := ⟨h.ext, h.m, fun k hk _ _ => h.keep k hk⟩
theorem Btw.of_made {a b : Nat} {w w' : World} {Z : Zone} (hz : ZOk a b w Z) (h : Made w w') : Btw w Z w' Z := ⟨Ext.of_made h, rfl, fun k hk => h.block k (hz.ml k hk)⟩
theorem Mid.of_turned {a b : Nat} {w w' : World} {Z : Zone} (hz : ZOk a b w Z) (h : Turned a b w w') : Mid a b w Z w' Z :=
  ⟨⟨h.os, h.tape, h.output, by rw [h.size]; exact Nat.le_refl _, fun k _ h1 h2 => ⟨h1, h2, h.block k (fun e => h1 (e ▸ hz.ma)) (fun e => h1 (e ▸ hz.mb))⟩⟩, rfl, fun k _ h1 h2 => h.block k h1 h2⟩
/-- What code has done: what others may turn it has not turned. -/
structure Work (w : World) (Z : Zone) (w' : World) (Z' : Zone) : Prop where
  ext : Ext w Z w' Z'
  t : Z'.T = Z.T
  keep : ∀ k : Nat, Z.T k → w'.heap[k]? = w.heap[k]?
theorem Work.refl (w : World) (Z : Zone) : Work w Z w Z := ⟨Ext.refl _ _, rfl, fun _ _ => rfl⟩
theorem Work.trans {u v w : World} {Z Z' Z'' : Zone} (h : Work u Z v Z') (k : Work v Z' w Z'') : Work u Z w Z'' :=
  ⟨h.ext.trans k.ext, k.t.trans h.t, fun i hi => (k.keep i (by rw [h.t]; exact hi)).trans (h.keep i hi)⟩
theorem Work.of_made {a b : Nat} {w w' : World} {Z : Zone} (hz : ZOk a b w Z) (h : Made w w') : Work w Z w' Z := ⟨Ext.of_made h, rfl, fun k hk => h.block k (hz.tl k hk)⟩
theorem Work.of_turned {a b : Nat} {w w' : World} {Z : Zone} (hz : ZOk a b w Z) (h : Turned a b w w') : Work w Z w' Z :=
  ⟨(Mid.of_turned hz h).ext, rfl, fun k hk => h.block k (fun e => hz.ap a hz.ma (e ▸ hk)) (fun e => hz.ap b hz.mb (e ▸ hk))⟩
/-- A block that nobody turns. -/
structure Blk (w : World) (Z : Zone) (k : Nat) (o : Obj) : Prop where
  lt : k < w.heap.size
  m : ¬ Z.M k
  t : ¬ Z.T k
  obj : w.heap[k]? = some o
theorem Blk.later {w w' : World} {Z Z' : Zone} {k : Nat} {o : Obj} (h : Blk w Z k o) (e : Ext w Z w' Z') : Blk w' Z' k o :=
  have g := e.block k h.lt h.m h.t
  ⟨Nat.lt_of_lt_of_le h.lt e.size, g.1, g.2.1, g.2.2.trans h.obj⟩
theorem Blk.cell {w : World} {Z : Zone} {k : Nat} {v : Value} {t : TypeId} (h : Blk w Z k (.cells #[v] t (0, 0))) : w.cell? ⟨k, 0, none⟩ = some v := by rw [cell_of_row _ _ _ _ _ _ h.obj]; rfl
theorem Blk.new {a b : Nat} {w : World} {Z : Zone} (hz : ZOk a b w Z) (o : Obj) : Blk (w.alloc o) Z w.heap.size o :=
  ⟨by rw [World.size_alloc]; omega, fun h => absurd (hz.ml _ h) (Nat.lt_irrefl _), fun h => absurd (hz.tl _ h) (Nat.lt_irrefl _), heap_alloc_new _ _⟩
theorem Arena.btw {a b : Nat} {w w' : World} {Z Z' : Zone} {c : Int} {xs : List Int} (hz : ZOk a b w Z) (h : Arena w a b c xs) (e : Btw w Z w' Z') : Arena w' a b c xs :=
  ⟨(e.keep a hz.ma).trans h.ha, (e.keep b hz.mb).trans h.hb, h.ne, h.c0, h.c1⟩
def Cnt (a b : Nat) (w : World) (c : Int) : Prop := ∃ xs, Arena w a b c xs
theorem Cnt.of {w : World} {a b : Nat} {c : Int} {xs : List Int} (h : Arena w a b c xs) : Cnt a b w c := ⟨_, h⟩
theorem Cnt.btw {a b : Nat} {w w' : World} {Z Z' : Zone} {c : Int} (hz : ZOk a b w Z) (h : Cnt a b w c) (e : Btw w Z w' Z') : Cnt a b w' c := by
  obtain ⟨s, hs⟩ := h
  exact ⟨s, Arena.btw hz hs e⟩
theorem Cnt.made {a b : Nat} {w w' : World} {c : Int} (h : Cnt a b w c) (m : Made w w') : Cnt a b w' c := by
  obtain ⟨s, hs⟩ := h
  exact ⟨s, hs.later m⟩
/-- Code that is through in n steps at most; Q holds when it is. -/
def Does (a b : Nat) : Nat → Value → World → Zone → Int → (World → Zone → Int → Prop) → Prop
  | 0, v, w, Z, c, Q => v = .nilFunc ∧ Q w Z c
  | n + 1, v, w, Z, c, Q => (v = .nilFunc ∧ Q w Z c) ∨ ∃ f cap, v = .func (.func f) #[] cap ∧ Enters Try.prog f ∧ ∀ w' Z', Btw w Z w' Z' → ZOk a b w' Z' → Calls Try.prog f cap w' fun e w'' =>
      ∃ v' Z'' c', e = .returned v' ∧ Work w' Z' w'' Z'' ∧ ZOk a b w'' Z'' ∧ (c' = c ∨ c' = c + 1) ∧ Cnt a b w'' c' ∧ Does a b n v' w'' Z'' c' Q
/-- What a call gives that gives code, and has no access. -/
def EndsIn (a b n : Nat) (w : World) (Z : Zone) (c : Int) (Q : World → Zone → Int → Prop) (e : Ending) (w'' : World) : Prop :=
  ∃ v Z'', e = .returned v ∧ Work w Z w'' Z'' ∧ ZOk a b w'' Z'' ∧ Cnt a b w'' c ∧ Does a b n v w'' Z'' c Q
/-- What one step gives. -/
def StepTo (a b n : Nat) (w : World) (Z : Zone) (c : Int) (Q : World → Zone → Int → Prop) (e : Ending) (w'' : World) : Prop :=
  ∃ v' Z'' c', e = .returned v' ∧ Work w Z w'' Z'' ∧ ZOk a b w'' Z'' ∧ (c' = c ∨ c' = c + 1) ∧ Cnt a b w'' c' ∧ Does a b n v' w'' Z'' c' Q
theorem EndsIn.pre {a b n : Nat} {w w1 : World} {Z Z1 : Zone} {c : Int} {Q : World → Zone → Int → Prop} {e : Ending} {w2 : World} (h : EndsIn a b n w1 Z1 c Q e w2) (k : Work w Z w1 Z1) : EndsIn a b n w Z c Q e w2 := by
  obtain ⟨v, Z'', rfl, h1, h2, h3, h4⟩ := h
  exact ⟨v, Z'', rfl, k.trans h1, h2, h3, h4⟩
theorem EndsIn.step {a b n : Nat} {w w1 : World} {Z Z1 : Zone} {c : Int} {Q : World → Zone → Int → Prop} {e : Ending} {w2 : World} (h : EndsIn a b n w1 Z1 (c + 1) Q e w2) (k : Work w Z w1 Z1) : StepTo a b n w Z c Q e w2 := by
  obtain ⟨v, Z'', rfl, h1, h2, h3, h4⟩ := h
  exact ⟨v, Z'', c + 1, rfl, k.trans h1, h2, Or.inr rfl, h3, h4⟩
theorem Does.more {a b : Nat} {Q : World → Zone → Int → Prop} : ∀ {n m : Nat} {v : Value} {w : World} {Z : Zone} {c : Int}, Does a b n v w Z c Q → n ≤ m → Does a b m v w Z c Q
  | 0, 0, _, _, _, _, h, _ => h
  | 0, m + 1, _, _, _, _, h, _ => Or.inl h
  | n + 1, 0, _, _, _, _, _, hm => by omega
  | n + 1, m + 1, _, _, _, _, h, hm => by
    rcases h with h | ⟨f, cap, rfl, hf, hc⟩
    · exact Or.inl h
    · refine Or.inr ⟨f, cap, rfl, hf, fun w' Z' h1 h2 => (hc w' Z' h1 h2).mono ?_⟩
      rintro e w'' ⟨v', Z'', c', rfl, g1, g2, g3, g4, g5⟩
      exact ⟨v', Z'', c', rfl, g1, g2, g3, g4, g5.more (by omega)⟩
theorem Does.shape {a b n : Nat} {v : Value} {w : World} {Z : Zone} {c : Int} {Q : World → Zone → Int → Prop} (h : Does a b n v w Z c Q) : v = .nilFunc ∨ ∃ f cap, v = .func (.func f) #[] cap ∧ Enters Try.prog f := by
  cases n with
  | zero => exact Or.inl h.1
  | succ n => rcases h with ⟨h, _⟩ | ⟨f, cap, h1, h2, _⟩
              · exact Or.inl h
              · exact Or.inr ⟨f, cap, h1, h2⟩
theorem EndsIn.more {a b n m : Nat} {w : World} {Z : Zone} {c : Int} {Q : World → Zone → Int → Prop} {e : Ending} {w2 : World} (h : EndsIn a b n w Z c Q e w2) (hm : n ≤ m) : EndsIn a b m w Z c Q e w2 := by
  obtain ⟨v, Z'', rfl, h1, h2, h3, h4⟩ := h
  exact ⟨v, Z'', rfl, h1, h2, h3, h4.more hm⟩
theorem Blk.ends {a b n : Nat} {w w2 : World} {Z : Zone} {c : Int} {Q : World → Zone → Int → Prop} {e : Ending} {k : Nat} {v : Value} {t : TypeId} (h : Blk w Z k (.cells #[v] t (0, 0))) (he : EndsIn a b n w Z c Q e w2) : w2.cell? ⟨k, 0, none⟩ = some v := by
  obtain ⟨_, Z'', _, h1, _⟩ := he
  exact (h.later h1.ext).cell
theorem EndsIn.value {a b n : Nat} {w w2 : World} {Z : Zone} {c : Int} {Q : World → Zone → Int → Prop} {e : Ending} (he : EndsIn a b n w Z c Q e w2) : ∃ v, e = .returned v := by
  obtain ⟨v, _, h, _⟩ := he
  exact ⟨v, h⟩
end Go.Proofs.Ytndpkonihcebeaa.Seq
