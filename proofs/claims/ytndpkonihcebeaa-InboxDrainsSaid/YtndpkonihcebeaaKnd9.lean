/- Layer 9's laws: what code still has to do; what a step does. -/
import Derived.Test.YtndpkonihcebeaaGrp
import Derived.Test.YtndpkonihcebeaaHead
import Derived.Test.YtndpkonihcebeaaKtk
namespace Go.Proofs.Ytndpkonihcebeaa.Kod.Nine
open Go.RowKit Go.Proofs.Ytndpkonihcebeaa Go.Proofs.Ytndpkonihcebeaa.Cell Go.Proofs.Ytndpkonihcebeaa.Wd
set_option linter.unusedVariables false
set_option linter.unusedSimpArgs false

/-- What drains took out, and where each ended; what is told of Puts that have ended. -/
structure R9 where
  own : List (List Int × List Int)
  ended : List Int
/-- What code still has to do: d: is it told that a Put has ended; t: the ticket; l: those behind it; o: whose drains; n: how many more. -/
inductive K9 where
  | done
  | putL (d : Bool) (t : Int) (l : List Int)
  | putD (d : Bool) (t : Int) (l : List Int) (h : Int)
  | putS (d : Bool) (t : Int) (l : List Int) (h : Int)
  | putC (d : Bool) (t : Int) (l : List Int) (h : Int)
  | putN (d : Bool) (t : Int) (l : List Int) (h : Int)
  | putM (d : Bool) (t : Int) (l : List Int) (h x : Int)
  | freL (d : Bool) (t : Int) (l : List Int) (i : Int)
  | freS (d : Bool) (t : Int) (l : List Int) (i h : Int)
  | freC (d : Bool) (t : Int) (l : List Int) (i h : Int)
  | drL (o n : Nat)
  | drC (o n : Nat) (h : Int)
  | eaL (o n : Nat) (f : Int)
  | eaI (o n : Nat) (x : Int)
/-- The link's cell. -/
def lk2 (i : Int) : Int := 2 + i
/-- Puts are begun. -/
def puts9 (d : Bool) : List Int → St R9 → Option (K9 × St R9)
  | [], σ => some (.done, σ)
  | t :: l, σ => some (.putL d t l, σ)
/-- A Put has ended. -/
def putted (d : Bool) (t : Int) (l : List Int) (σ : St R9) : Option (K9 × St R9) :=
  if σ.r.ended.length < 1000000 then puts9 d l (if d = true ∧ σ.steps.getD 0 0 = 0 then { σ with r := { σ.r with ended := σ.r.ended ++ [t] } } else σ) else none
/-- Drains are begun. -/
def drains9 (o : Nat) : Nat → St R9 → Option (K9 × St R9)
  | 0, σ => some (.done, σ)
  | n + 1, σ => some (.drL o n, σ)
/-- A Drain's tickets are gone through. -/
def drained (o n : Nat) (σ : St R9) : Option (K9 × St R9) := match σ.r.own[o]? with
  | none => none
  | some x => if x.1.length < 1000000 ∧ x.2.length < 1000000 then drains9 o n { σ with r := { σ.r with own := σ.r.own.set o (x.1, x.2 ++ [(x.1.length : Int)]) } } else none
/-- Tickets are gone through, from one on. -/
def each9 (o n : Nat) (f : Int) (σ : St R9) : Option (K9 × St R9) := if f < 0 then drained o n σ else if f < 4294967295 then some (.eaL o n f, σ) else none
/-- A ticket is noted. -/
def took (o n : Nat) (f x : Int) (σ : St R9) : Option (K9 × St R9) := match σ.r.own[o]? with
  | none => none
  | some y => if y.1.length < 1000000 then some (.eaI o n x, { σ with r := { σ.r with own := σ.r.own.set o (y.1 ++ [f], y.2) } }) else none
def next9 (nn : Int) : K9 → St R9 → Option (K9 × St R9)
  | .done, σ => some (.done, σ)
  | .putL d t l, σ => if ix (σ.ld 0).1 < 0 then some (.putS d t l (σ.ld 0).1, (σ.ld 0).2) else some (.putD d t l (σ.ld 0).1, (σ.ld 0).2)
  | .putD d t l h, σ => if (σ.ld (2 + nn + ix h)).1 = 1 then some (.putN d t l h, (σ.ld (2 + nn + ix h)).2) else some (.putS d t l h, (σ.ld (2 + nn + ix h)).2)
  | .putS d t l h, σ => some (.putC d t l h, σ.sto (lk2 t) (ix h + 1))
  | .putC d t l h, σ => if (σ.cas 0 h (turnTo h t)).1 then putted d t l (σ.cas 0 h (turnTo h t)).2 else some (.putL d t l, (σ.cas 0 h (turnTo h t)).2)
  | .putN d t l h, σ => some (.putM d t l h (σ.ld (lk2 (ix h))).1, (σ.ld (lk2 (ix h))).2)
  | .putM d t l h x, σ => if (σ.cas 0 h (turnTo h (nx x))).1 then some (.freL d t l (ix h), (σ.cas 0 h (turnTo h (nx x))).2) else some (.putL d t l, (σ.cas 0 h (turnTo h (nx x))).2)
  | .freL d t l i, σ => some (.freS d t l i (σ.ld 1).1, (σ.ld 1).2)
  | .freS d t l i h, σ => some (.freC d t l i h, σ.sto (lk2 i) (ix h + 1))
  | .freC d t l i h, σ => if (σ.cas 1 h (turnTo h i)).1 then some (.putL d t l, (σ.cas 1 h (turnTo h i)).2) else some (.freL d t l i, (σ.cas 1 h (turnTo h i)).2)
  | .drL o n, σ => if ix (σ.ld 0).1 < 0 then each9 o n (-1) (σ.ld 0).2 else some (.drC o n (σ.ld 0).1, (σ.ld 0).2)
  | .drC o n h, σ => if (σ.cas 0 h (turnTo h (-1))).1 then each9 o n (ix h) (σ.cas 0 h (turnTo h (-1))).2 else some (.drL o n, (σ.cas 0 h (turnTo h (-1))).2)
  | .eaL o n f, σ => took o n f (σ.ld (lk2 f)).1 (σ.ld (lk2 f)).2
  | .eaI o n x, σ => each9 o n (nx x) σ
end Go.Proofs.Ytndpkonihcebeaa.Kod.Nine
