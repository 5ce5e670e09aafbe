/-
  No cell of these rows narrows 'for every input' (looked for: loops, veiled, ifaces, maps, wideKeys, modest, calm, conditions, laid).
  DERIVED. THE GIVEN ROWS OF THIS SEAT. 12 by the template 'for every input the law returns true; each argument reads behind the call as it read before'; 0 by the template 'total and deterministic' (their statements: YthllplocbciepaaTotals.lean).
  GIVEN WITH THE SEED: the statements are not yours to turn. If you find one false, say at which input.
  Laid BY PROGRAM, IN A SANDBOX (cutbox-rows.mjs): the forced cells as the released guide's own fill.sh prints them over the translation 891e400d948bbf6c… (all of the seat's roots in one cut). By AI agents, Wed Nov 11 2026. No macro, syntax, notation, axiom, sorry.
-/
import Derived.Test.YthllplocbciepaaChecked
import GoSem.Claim
import GoSem.ClaimJoined
import GoSem.ClaimMapViews
import Derived.JoinedTies
import Derived.KernelRfl
namespace Go.Proofs.Ythllplocbciepaa
/- THE CELL 'sum', in the pinned program and in every row, IS THE sha256 OF THE DUMP (.gsa) THAT YthllplocbciepaaProg.lean LOADS. Nothing in Lean hashes anything: it is a label: what it is worth is what the hold of that sum in a sandbox is worth. -/
noncomputable def Try.pinned : Pinned := { name := "ythllplocbciepaa", sum := "891e400d948bbf6c45e08b2ab6978d896dd952a146f886e72e81761fb2d47bbd", checked := Try.checked }
namespace Rows
def none {H : Type} : Left H := { results := [], args := [] }

/-- 'knelllaw06.BitsGo': WHATEVER THE INPUT: true; the input reads as it did. -/
def bitsGoSpec : ChangeSpec := { name := "bitsGo", fn := fun _ => fun
  | [d1, d2] => { results := [.lit (.bool true)], args := [d1, d2] }
  | _ => none }
def bitsGoRow : OpenClaim := { program := "ythllplocbciepaa", sum := "891e400d948bbf6c45e08b2ab6978d896dd952a146f886e72e81761fb2d47bbd", func := "knell/knelllaw06.BitsGo", spec := "bitsGo", apart := false }
def BitsGoSaid : Prop := bitsGoRow.holds Try.pinned (OpenSpec.ofChange bitsGoSpec)

/-- ITS FALSE NEIGHBOUR: 'it returns false'. Refute it at one input. -/
def bitsGoWrong : ChangeSpec := { name := "bitsGo", fn := fun _ => fun
  | [d1, d2] => { results := [.lit (.bool false)], args := [d1, d2] }
  | _ => none }
def BitsGoWrongFalsely : Prop := bitsGoRow.holds Try.pinned (OpenSpec.ofChange bitsGoWrong)

/-- 'knelllaw06.BitsTurn': WHATEVER THE INPUT: true; the input reads as it did. -/
def bitsTurnSpec : ChangeSpec := { name := "bitsTurn", fn := fun _ => fun
  | [d1, d2, d3] => { results := [.lit (.bool true)], args := [d1, d2, d3] }
  | _ => none }
def bitsTurnRow : OpenClaim := { program := "ythllplocbciepaa", sum := "891e400d948bbf6c45e08b2ab6978d896dd952a146f886e72e81761fb2d47bbd", func := "knell/knelllaw06.BitsTurn", spec := "bitsTurn", apart := false }
def BitsTurnSaid : Prop := bitsTurnRow.holds Try.pinned (OpenSpec.ofChange bitsTurnSpec)

/-- ITS FALSE NEIGHBOUR: 'it returns false'. Refute it at one input. -/
def bitsTurnWrong : ChangeSpec := { name := "bitsTurn", fn := fun _ => fun
  | [d1, d2, d3] => { results := [.lit (.bool false)], args := [d1, d2, d3] }
  | _ => none }
def BitsTurnWrongFalsely : Prop := bitsTurnRow.holds Try.pinned (OpenSpec.ofChange bitsTurnWrong)

/-- 'knelllaw06.BitsOf': WHATEVER THE INPUT: true; the input reads as it did. -/
def bitsOfSpec : ChangeSpec := { name := "bitsOf", fn := fun _ => fun
  | [d] => { results := [.lit (.bool true)], args := [d] }
  | _ => none }
def bitsOfRow : OpenClaim := { program := "ythllplocbciepaa", sum := "891e400d948bbf6c45e08b2ab6978d896dd952a146f886e72e81761fb2d47bbd", func := "knell/knelllaw06.BitsOf", spec := "bitsOf", unfollowed := true, recurses := true, apart := false }
def BitsOfSaid : Prop := bitsOfRow.holds Try.pinned (OpenSpec.ofChange bitsOfSpec)

/-- ITS FALSE NEIGHBOUR: 'it returns false'. Refute it at one input. -/
def bitsOfWrong : ChangeSpec := { name := "bitsOf", fn := fun _ => fun
  | [d] => { results := [.lit (.bool false)], args := [d] }
  | _ => none }
def BitsOfWrongFalsely : Prop := bitsOfRow.holds Try.pinned (OpenSpec.ofChange bitsOfWrong)

/-- 'knelllaw06.BitsTell': WHATEVER THE INPUT: true; the input reads as it did. -/
def bitsTellSpec : ChangeSpec := { name := "bitsTell", fn := fun _ => fun
  | [d1, d2, d3, d4] => { results := [.lit (.bool true)], args := [d1, d2, d3, d4] }
  | _ => none }
def bitsTellRow : OpenClaim := { program := "ythllplocbciepaa", sum := "891e400d948bbf6c45e08b2ab6978d896dd952a146f886e72e81761fb2d47bbd", func := "knell/knelllaw06.BitsTell", spec := "bitsTell", unfollowed := true, recurses := true, apart := false }
def BitsTellSaid : Prop := bitsTellRow.holds Try.pinned (OpenSpec.ofChange bitsTellSpec)

/-- ITS FALSE NEIGHBOUR: 'it returns false'. Refute it at one input. -/
def bitsTellWrong : ChangeSpec := { name := "bitsTell", fn := fun _ => fun
  | [d1, d2, d3, d4] => { results := [.lit (.bool false)], args := [d1, d2, d3, d4] }
  | _ => none }
def BitsTellWrongFalsely : Prop := bitsTellRow.holds Try.pinned (OpenSpec.ofChange bitsTellWrong)

/-- 'knelllaw07.StepPieces': WHATEVER THE INPUT: true; the input reads as it did. -/
def stepPiecesSpec : ChangeSpec := { name := "stepPieces", fn := fun _ => fun
  | [d1, d2, d3] => { results := [.lit (.bool true)], args := [d1, d2, d3] }
  | _ => none }
def stepPiecesRow : OpenClaim := { program := "ythllplocbciepaa", sum := "891e400d948bbf6c45e08b2ab6978d896dd952a146f886e72e81761fb2d47bbd", func := "knell/knelllaw07.StepPieces", spec := "stepPieces", inPlace := ["sync/atomic.AddInt64", "sync/atomic.StoreUint64", "sync/atomic.LoadUint64", "sync/atomic.SwapUint64", "sync/atomic.CompareAndSwapUint64"], unfollowed := true, recurses := true, apart := false }
def StepPiecesSaid : Prop := stepPiecesRow.holds Try.pinned (OpenSpec.ofChange stepPiecesSpec)

/-- ITS FALSE NEIGHBOUR: 'it returns false'. Refute it at one input. -/
def stepPiecesWrong : ChangeSpec := { name := "stepPieces", fn := fun _ => fun
  | [d1, d2, d3] => { results := [.lit (.bool false)], args := [d1, d2, d3] }
  | _ => none }
def StepPiecesWrongFalsely : Prop := stepPiecesRow.holds Try.pinned (OpenSpec.ofChange stepPiecesWrong)

/-- 'knelllaw07.StepOne': WHATEVER THE INPUT: true; the input reads as it did. -/
def stepOneSpec : ChangeSpec := { name := "stepOne", fn := fun _ => fun
  | [d1, d2] => { results := [.lit (.bool true)], args := [d1, d2] }
  | _ => none }
def stepOneRow : OpenClaim := { program := "ythllplocbciepaa", sum := "891e400d948bbf6c45e08b2ab6978d896dd952a146f886e72e81761fb2d47bbd", func := "knell/knelllaw07.StepOne", spec := "stepOne", inPlace := ["sync/atomic.AddInt64", "sync/atomic.StoreUint64", "sync/atomic.LoadUint64", "sync/atomic.SwapUint64", "sync/atomic.CompareAndSwapUint64", "sync/atomic.LoadInt64"], unfollowed := true, recurses := true, apart := false }
def StepOneSaid : Prop := stepOneRow.holds Try.pinned (OpenSpec.ofChange stepOneSpec)

/-- ITS FALSE NEIGHBOUR: 'it returns false'. Refute it at one input. -/
def stepOneWrong : ChangeSpec := { name := "stepOne", fn := fun _ => fun
  | [d1, d2] => { results := [.lit (.bool false)], args := [d1, d2] }
  | _ => none }
def StepOneWrongFalsely : Prop := stepOneRow.holds Try.pinned (OpenSpec.ofChange stepOneWrong)

/-- 'knelllaw07.StepRuns': WHATEVER THE INPUT: true; the input reads as it did. -/
def stepRunsSpec : ChangeSpec := { name := "stepRuns", fn := fun _ => fun
  | [d1, d2] => { results := [.lit (.bool true)], args := [d1, d2] }
  | _ => none }
def stepRunsRow : OpenClaim := { program := "ythllplocbciepaa", sum := "891e400d948bbf6c45e08b2ab6978d896dd952a146f886e72e81761fb2d47bbd", func := "knell/knelllaw07.StepRuns", spec := "stepRuns", inPlace := ["sync/atomic.AddInt64", "sync/atomic.StoreUint64", "sync/atomic.LoadUint64", "sync/atomic.SwapUint64", "sync/atomic.CompareAndSwapUint64", "sync/atomic.LoadInt64"], unfollowed := true, recurses := true, apart := false }
def StepRunsSaid : Prop := stepRunsRow.holds Try.pinned (OpenSpec.ofChange stepRunsSpec)

/-- ITS FALSE NEIGHBOUR: 'it returns false'. Refute it at one input. -/
def stepRunsWrong : ChangeSpec := { name := "stepRuns", fn := fun _ => fun
  | [d1, d2] => { results := [.lit (.bool false)], args := [d1, d2] }
  | _ => none }
def StepRunsWrongFalsely : Prop := stepRunsRow.holds Try.pinned (OpenSpec.ofChange stepRunsWrong)

/-- 'knelllaw07.StepAlone': WHATEVER THE INPUT: true; the input reads as it did. -/
def stepAloneSpec : ChangeSpec := { name := "stepAlone", fn := fun _ => fun
  | [d] => { results := [.lit (.bool true)], args := [d] }
  | _ => none }
def stepAloneRow : OpenClaim := { program := "ythllplocbciepaa", sum := "891e400d948bbf6c45e08b2ab6978d896dd952a146f886e72e81761fb2d47bbd", func := "knell/knelllaw07.StepAlone", spec := "stepAlone", inPlace := ["sync/atomic.AddInt64", "sync/atomic.StoreUint64", "sync/atomic.LoadUint64", "sync/atomic.SwapUint64", "sync/atomic.CompareAndSwapUint64"], unfollowed := true, recurses := true, apart := false }
def StepAloneSaid : Prop := stepAloneRow.holds Try.pinned (OpenSpec.ofChange stepAloneSpec)

/-- ITS FALSE NEIGHBOUR: 'it returns false'. Refute it at one input. -/
def stepAloneWrong : ChangeSpec := { name := "stepAlone", fn := fun _ => fun
  | [d] => { results := [.lit (.bool false)], args := [d] }
  | _ => none }
def StepAloneWrongFalsely : Prop := stepAloneRow.holds Try.pinned (OpenSpec.ofChange stepAloneWrong)

/-- 'knelllaw08.StackSoon': WHATEVER THE INPUT: true; the input reads as it did. -/
def stackSoonSpec : ChangeSpec := { name := "stackSoon", fn := fun _ => fun
  | [d1, d2, d3, d4] => { results := [.lit (.bool true)], args := [d1, d2, d3, d4] }
  | _ => none }
def stackSoonRow : OpenClaim := { program := "ythllplocbciepaa", sum := "891e400d948bbf6c45e08b2ab6978d896dd952a146f886e72e81761fb2d47bbd", func := "knell/knelllaw08.StackSoon", spec := "stackSoon", inPlace := ["sync/atomic.AddInt64", "sync/atomic.CompareAndSwapUint64", "sync/atomic.LoadUint64", "sync/atomic.StoreUint64"], unfollowed := true, recurses := true, apart := false }
def StackSoonSaid : Prop := stackSoonRow.holds Try.pinned (OpenSpec.ofChange stackSoonSpec)

/-- ITS FALSE NEIGHBOUR: 'it returns false'. Refute it at one input. -/
def stackSoonWrong : ChangeSpec := { name := "stackSoon", fn := fun _ => fun
  | [d1, d2, d3, d4] => { results := [.lit (.bool false)], args := [d1, d2, d3, d4] }
  | _ => none }
def StackSoonWrongFalsely : Prop := stackSoonRow.holds Try.pinned (OpenSpec.ofChange stackSoonWrong)

/-- 'knelllaw08.StackAlone': WHATEVER THE INPUT: true; the input reads as it did. -/
def stackAloneSpec : ChangeSpec := { name := "stackAlone", fn := fun _ => fun
  | [d1, d2] => { results := [.lit (.bool true)], args := [d1, d2] }
  | _ => none }
def stackAloneRow : OpenClaim := { program := "ythllplocbciepaa", sum := "891e400d948bbf6c45e08b2ab6978d896dd952a146f886e72e81761fb2d47bbd", func := "knell/knelllaw08.StackAlone", spec := "stackAlone", inPlace := ["sync/atomic.AddInt64", "sync/atomic.CompareAndSwapUint64", "sync/atomic.LoadUint64", "sync/atomic.StoreUint64"], unfollowed := true, recurses := true, apart := false }
def StackAloneSaid : Prop := stackAloneRow.holds Try.pinned (OpenSpec.ofChange stackAloneSpec)

/-- ITS FALSE NEIGHBOUR: 'it returns false'. Refute it at one input. -/
def stackAloneWrong : ChangeSpec := { name := "stackAlone", fn := fun _ => fun
  | [d1, d2] => { results := [.lit (.bool false)], args := [d1, d2] }
  | _ => none }
def StackAloneWrongFalsely : Prop := stackAloneRow.holds Try.pinned (OpenSpec.ofChange stackAloneWrong)

/-- 'knelllaw08.StackBack': WHATEVER THE INPUT: true; the input reads as it did. -/
def stackBackSpec : ChangeSpec := { name := "stackBack", fn := fun _ => fun
  | [d1, d2] => { results := [.lit (.bool true)], args := [d1, d2] }
  | _ => none }
def stackBackRow : OpenClaim := { program := "ythllplocbciepaa", sum := "891e400d948bbf6c45e08b2ab6978d896dd952a146f886e72e81761fb2d47bbd", func := "knell/knelllaw08.StackBack", spec := "stackBack", inPlace := ["sync/atomic.AddInt64", "sync/atomic.CompareAndSwapUint64", "sync/atomic.LoadUint64", "sync/atomic.StoreUint64"], unfollowed := true, recurses := true, apart := false }
def StackBackSaid : Prop := stackBackRow.holds Try.pinned (OpenSpec.ofChange stackBackSpec)

/-- ITS FALSE NEIGHBOUR: 'it returns false'. Refute it at one input. -/
def stackBackWrong : ChangeSpec := { name := "stackBack", fn := fun _ => fun
  | [d1, d2] => { results := [.lit (.bool false)], args := [d1, d2] }
  | _ => none }
def StackBackWrongFalsely : Prop := stackBackRow.holds Try.pinned (OpenSpec.ofChange stackBackWrong)

/-- 'knelllaw08.StackMany': WHATEVER THE INPUT: true; the input reads as it did. -/
def stackManySpec : ChangeSpec := { name := "stackMany", fn := fun _ => fun
  | [d1, d2, d3] => { results := [.lit (.bool true)], args := [d1, d2, d3] }
  | _ => none }
def stackManyRow : OpenClaim := { program := "ythllplocbciepaa", sum := "891e400d948bbf6c45e08b2ab6978d896dd952a146f886e72e81761fb2d47bbd", func := "knell/knelllaw08.StackMany", spec := "stackMany", inPlace := ["sync/atomic.AddInt64", "sync/atomic.CompareAndSwapUint64", "sync/atomic.LoadUint64", "sync/atomic.StoreUint64", "sync/atomic.LoadInt64"], unfollowed := true, recurses := true, apart := false }
def StackManySaid : Prop := stackManyRow.holds Try.pinned (OpenSpec.ofChange stackManySpec)

/-- ITS FALSE NEIGHBOUR: 'it returns false'. Refute it at one input. -/
def stackManyWrong : ChangeSpec := { name := "stackMany", fn := fun _ => fun
  | [d1, d2, d3] => { results := [.lit (.bool false)], args := [d1, d2, d3] }
  | _ => none }
def StackManyWrongFalsely : Prop := stackManyRow.holds Try.pinned (OpenSpec.ofChange stackManyWrong)

/- THE SECOND FORM. 'bulk': how many values and letters a reading holds, each counted each time it is reached (what is shared counts as often as it is met; a slice's spare places count too). A statement '..UptoSaid' is the law's where the arguments, and the package variables that the reading takes, are together of bulk at most 1048576: NARROWER than '..Said'. Prove '..Said' where nothing that the law and all that it calls make is longer than what came in: it says more and counts as full. Else prove '..UptoSaid'. A law counts once. -/
mutual
def uptoBulk {H : Type} : DataW H → Nat
  | .lit (.string bytes) => bytes.length + 1
  | .lit _ => 1
  | .nil => 1
  | .ptr d => uptoBulk d + 1
  | .slice elems spare => uptoBulkAll elems + uptoBulkAll spare + 1
  | .agg parts => uptoBulkAll parts + 1
  | .iface _ d => uptoBulk d + 1
  | .map entries => uptoBulkEntries entries + 1
  | .held _ => 1
def uptoBulkAll {H : Type} : List (DataW H) → Nat
  | [] => 0
  | d :: r => uptoBulk d + uptoBulkAll r
def uptoBulkEntries {H : Type} : List (Lit × DataW H) → Nat
  | [] => 0
  | x :: r => uptoBulkEntry x + uptoBulkEntries r
def uptoBulkEntry {H : Type} : Lit × DataW H → Nat
  | (.string bytes, d) => bytes.length + uptoBulk d + 1
  | (_, d) => uptoBulk d + 1
 end
def uptoSmall : (H : Type) → List (DataW H) → Bool := fun _ ds => decide (uptoBulkAll ds ≤ 1048576)
def OpenSpec.upto (s : _root_.Go.ChangeSpec) : _root_.Go.OpenSpec := { _root_.Go.OpenSpec.ofChange s with cond := some uptoSmall }

/-- 'knelllaw06.BitsGo', WHERE WHAT IT READS IS OF BULK AT MOST 1048576: true; the input reads as it did. -/
def bitsGoUptoRow : OpenClaim := { program := "ythllplocbciepaa", sum := "891e400d948bbf6c45e08b2ab6978d896dd952a146f886e72e81761fb2d47bbd", func := "knell/knelllaw06.BitsGo", spec := "bitsGo", apart := false, narrowed := true }
def BitsGoUptoSaid : Prop := bitsGoUptoRow.holds Try.pinned (OpenSpec.upto bitsGoSpec)

/-- 'knelllaw06.BitsTurn', WHERE WHAT IT READS IS OF BULK AT MOST 1048576: true; the input reads as it did. -/
def bitsTurnUptoRow : OpenClaim := { program := "ythllplocbciepaa", sum := "891e400d948bbf6c45e08b2ab6978d896dd952a146f886e72e81761fb2d47bbd", func := "knell/knelllaw06.BitsTurn", spec := "bitsTurn", apart := false, narrowed := true }
def BitsTurnUptoSaid : Prop := bitsTurnUptoRow.holds Try.pinned (OpenSpec.upto bitsTurnSpec)

/-- 'knelllaw06.BitsOf', WHERE WHAT IT READS IS OF BULK AT MOST 1048576: true; the input reads as it did. -/
def bitsOfUptoRow : OpenClaim := { program := "ythllplocbciepaa", sum := "891e400d948bbf6c45e08b2ab6978d896dd952a146f886e72e81761fb2d47bbd", func := "knell/knelllaw06.BitsOf", spec := "bitsOf", unfollowed := true, recurses := true, apart := false, narrowed := true }
def BitsOfUptoSaid : Prop := bitsOfUptoRow.holds Try.pinned (OpenSpec.upto bitsOfSpec)

/-- 'knelllaw06.BitsTell', WHERE WHAT IT READS IS OF BULK AT MOST 1048576: true; the input reads as it did. -/
def bitsTellUptoRow : OpenClaim := { program := "ythllplocbciepaa", sum := "891e400d948bbf6c45e08b2ab6978d896dd952a146f886e72e81761fb2d47bbd", func := "knell/knelllaw06.BitsTell", spec := "bitsTell", unfollowed := true, recurses := true, apart := false, narrowed := true }
def BitsTellUptoSaid : Prop := bitsTellUptoRow.holds Try.pinned (OpenSpec.upto bitsTellSpec)

/-- 'knelllaw07.StepPieces', WHERE WHAT IT READS IS OF BULK AT MOST 1048576: true; the input reads as it did. -/
def stepPiecesUptoRow : OpenClaim := { program := "ythllplocbciepaa", sum := "891e400d948bbf6c45e08b2ab6978d896dd952a146f886e72e81761fb2d47bbd", func := "knell/knelllaw07.StepPieces", spec := "stepPieces", inPlace := ["sync/atomic.AddInt64", "sync/atomic.StoreUint64", "sync/atomic.LoadUint64", "sync/atomic.SwapUint64", "sync/atomic.CompareAndSwapUint64"], unfollowed := true, recurses := true, apart := false, narrowed := true }
def StepPiecesUptoSaid : Prop := stepPiecesUptoRow.holds Try.pinned (OpenSpec.upto stepPiecesSpec)

/-- 'knelllaw07.StepOne', WHERE WHAT IT READS IS OF BULK AT MOST 1048576: true; the input reads as it did. -/
def stepOneUptoRow : OpenClaim := { program := "ythllplocbciepaa", sum := "891e400d948bbf6c45e08b2ab6978d896dd952a146f886e72e81761fb2d47bbd", func := "knell/knelllaw07.StepOne", spec := "stepOne", inPlace := ["sync/atomic.AddInt64", "sync/atomic.StoreUint64", "sync/atomic.LoadUint64", "sync/atomic.SwapUint64", "sync/atomic.CompareAndSwapUint64", "sync/atomic.LoadInt64"], unfollowed := true, recurses := true, apart := false, narrowed := true }
def StepOneUptoSaid : Prop := stepOneUptoRow.holds Try.pinned (OpenSpec.upto stepOneSpec)

/-- 'knelllaw07.StepRuns', WHERE WHAT IT READS IS OF BULK AT MOST 1048576: true; the input reads as it did. -/
def stepRunsUptoRow : OpenClaim := { program := "ythllplocbciepaa", sum := "891e400d948bbf6c45e08b2ab6978d896dd952a146f886e72e81761fb2d47bbd", func := "knell/knelllaw07.StepRuns", spec := "stepRuns", inPlace := ["sync/atomic.AddInt64", "sync/atomic.StoreUint64", "sync/atomic.LoadUint64", "sync/atomic.SwapUint64", "sync/atomic.CompareAndSwapUint64", "sync/atomic.LoadInt64"], unfollowed := true, recurses := true, apart := false, narrowed := true }
def StepRunsUptoSaid : Prop := stepRunsUptoRow.holds Try.pinned (OpenSpec.upto stepRunsSpec)

/-- 'knelllaw07.StepAlone', WHERE WHAT IT READS IS OF BULK AT MOST 1048576: true; the input reads as it did. -/
def stepAloneUptoRow : OpenClaim := { program := "ythllplocbciepaa", sum := "891e400d948bbf6c45e08b2ab6978d896dd952a146f886e72e81761fb2d47bbd", func := "knell/knelllaw07.StepAlone", spec := "stepAlone", inPlace := ["sync/atomic.AddInt64", "sync/atomic.StoreUint64", "sync/atomic.LoadUint64", "sync/atomic.SwapUint64", "sync/atomic.CompareAndSwapUint64"], unfollowed := true, recurses := true, apart := false, narrowed := true }
def StepAloneUptoSaid : Prop := stepAloneUptoRow.holds Try.pinned (OpenSpec.upto stepAloneSpec)

/-- 'knelllaw08.StackSoon', WHERE WHAT IT READS IS OF BULK AT MOST 1048576: true; the input reads as it did. -/
def stackSoonUptoRow : OpenClaim := { program := "ythllplocbciepaa", sum := "891e400d948bbf6c45e08b2ab6978d896dd952a146f886e72e81761fb2d47bbd", func := "knell/knelllaw08.StackSoon", spec := "stackSoon", inPlace := ["sync/atomic.AddInt64", "sync/atomic.CompareAndSwapUint64", "sync/atomic.LoadUint64", "sync/atomic.StoreUint64"], unfollowed := true, recurses := true, apart := false, narrowed := true }
def StackSoonUptoSaid : Prop := stackSoonUptoRow.holds Try.pinned (OpenSpec.upto stackSoonSpec)

/-- 'knelllaw08.StackAlone', WHERE WHAT IT READS IS OF BULK AT MOST 1048576: true; the input reads as it did. -/
def stackAloneUptoRow : OpenClaim := { program := "ythllplocbciepaa", sum := "891e400d948bbf6c45e08b2ab6978d896dd952a146f886e72e81761fb2d47bbd", func := "knell/knelllaw08.StackAlone", spec := "stackAlone", inPlace := ["sync/atomic.AddInt64", "sync/atomic.CompareAndSwapUint64", "sync/atomic.LoadUint64", "sync/atomic.StoreUint64"], unfollowed := true, recurses := true, apart := false, narrowed := true }
def StackAloneUptoSaid : Prop := stackAloneUptoRow.holds Try.pinned (OpenSpec.upto stackAloneSpec)

/-- 'knelllaw08.StackBack', WHERE WHAT IT READS IS OF BULK AT MOST 1048576: true; the input reads as it did. -/
def stackBackUptoRow : OpenClaim := { program := "ythllplocbciepaa", sum := "891e400d948bbf6c45e08b2ab6978d896dd952a146f886e72e81761fb2d47bbd", func := "knell/knelllaw08.StackBack", spec := "stackBack", inPlace := ["sync/atomic.AddInt64", "sync/atomic.CompareAndSwapUint64", "sync/atomic.LoadUint64", "sync/atomic.StoreUint64"], unfollowed := true, recurses := true, apart := false, narrowed := true }
def StackBackUptoSaid : Prop := stackBackUptoRow.holds Try.pinned (OpenSpec.upto stackBackSpec)

/-- 'knelllaw08.StackMany', WHERE WHAT IT READS IS OF BULK AT MOST 1048576: true; the input reads as it did. -/
def stackManyUptoRow : OpenClaim := { program := "ythllplocbciepaa", sum := "891e400d948bbf6c45e08b2ab6978d896dd952a146f886e72e81761fb2d47bbd", func := "knell/knelllaw08.StackMany", spec := "stackMany", inPlace := ["sync/atomic.AddInt64", "sync/atomic.CompareAndSwapUint64", "sync/atomic.LoadUint64", "sync/atomic.StoreUint64", "sync/atomic.LoadInt64"], unfollowed := true, recurses := true, apart := false, narrowed := true }
def StackManyUptoSaid : Prop := stackManyUptoRow.holds Try.pinned (OpenSpec.upto stackManySpec)

end Rows
end Go.Proofs.Ythllplocbciepaa
