/- A region that draws its order, whose operations read, and whose calls leave a world of a class: one walk in the text's order. -/
import Derived.Test.YtnkcekgjppkbpaaBase
import Derived.BigQuiet
namespace Go.Proofs.Ytnkcekgjppkbpaa
open Go.RowKit
section
variable {P : Program} {S : World → Prop}
/-- A world of the class. -/
structure Cls (S : World → Prop) where
  val : World
  ok : S val
theorem wp_region_sub (S : World → Prop) {id : Nat} {Q : Exit → Act → World → Prop} {a : Act} {w : World} {l : List Oper} (hm : P.follows .mixedOrders = true) (hB : Region.lexB .any l.toArray = true) (hS : S w.drew)
    (h : wpQuiet P l.toArray (fun w' => ∃ m : Cls S, w' = m.val) (fun a' => ∀ w', (∃ m : Cls S, w' = m.val) → Q .normal a' w') l a) : (Code.region id l.toArray true).wp P Q a w :=
  wp_region_quiet (C := fun w' => ∃ m : Cls S, w' = m.val) hm hB ⟨⟨_, hS⟩, rfl⟩ (by simpa using h)
theorem Calls.sub {f : FuncId} {args : Array Value} {m : Cls S} {v : Value} (h : Calls P f args m.val fun e w' => e = .returned v ∧ Made m.val w') (hS : ∀ w', S m.val → Made m.val w' → S w') :
    Calls P f args m.val fun e w'' => e = .returned v ∧ ∃ m' : Cls S, w'' = m'.val :=
  h.mono fun _ w' ⟨he, hm⟩ => ⟨he, ⟨w', hS w' m.ok hm⟩, rfl⟩
theorem made_of_drewN {w w' : World} (h : ∃ n, w' = w.drewN n) : Made w w' := by
  obtain ⟨n, rfl⟩ := h
  exact Made.drewN w n
theorem made_of_same {w w' : World} (h : w = w') : Made w w' := h ▸ Made.refl w
/-- What lies in these blocks, and that nothing that was there has turned. -/
structure Kept (w : World) (l : List (Nat × Obj)) (x : World) : Prop where
  all : ∀ (i b : Nat) (o : Obj), l[i]? = some (b, o) → x.heap[b]? = some o
  md : Made w x
theorem Kept.at {w : World} {l : List (Nat × Obj)} {x : World} (h : Kept w l x) (i : Nat) {b : Nat} {o : Obj} (hi : l[i]? = some (b, o)) : x.heap[b]? = some o := h.all i b o hi
theorem Kept.later {w : World} {l : List (Nat × Obj)} {x : World} (h : Kept w l x) {y : World} (m : Made x y) : Kept w l y :=
  ⟨fun i b o hi => (m.block _ (Array.getElem?_eq_some_iff.1 (h.all i b o hi)).1).trans (h.all i b o hi), Made.trans h.md m⟩
theorem Kept.drew {w : World} {l : List (Nat × Obj)} {x : World} (h : Kept w l x) : Kept w l x.drew := ⟨fun i b o hi => h.all i b o hi, below_drewN h.md 1⟩
theorem Kept.nil {w x : World} (h : Made w x) : Kept w [] x := ⟨fun i b o hi => by simp at hi, h⟩
theorem Kept.cons {w x : World} {l : List (Nat × Obj)} {b : Nat} {o : Obj} (h : x.heap[b]? = some o) (k : Kept w l x) : Kept w ((b, o) :: l) x :=
  ⟨fun i c u hi => by
    cases i with
    | zero => simp at hi; obtain ⟨rfl, rfl⟩ := hi; exact h
    | succ i => exact k.all i c u (by simpa using hi), k.md⟩
end
end Go.Proofs.Ytnkcekgjppkbpaa
