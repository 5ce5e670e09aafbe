/-
  No cell of these rows narrows 'for every input' (looked for: loops, veiled, ifaces, maps, wideKeys, modest, calm, conditions, laid).
  DERIVED. THE GIVEN ROWS OF THIS SEAT. 10 by the template 'for every input the law returns true; each argument reads behind the call as it read before'; 0 by the template 'total and deterministic' (their statements: YtnkcekgjppkbpaaTotals.lean).
  GIVEN WITH THE SEED: the statements are not yours to turn. If you find one false, say at which input.
  Laid BY PROGRAM, IN A SANDBOX (cutbox-rows.mjs): the forced cells as the released guide's own fill.sh prints them over the translation b02ba8f18bcddb6c… (all of the seat's roots in one cut). By AI agents, Wed Nov 11 2026. No macro, syntax, notation, axiom, sorry.
-/
import Derived.Test.YtnkcekgjppkbpaaChecked
import GoSem.Claim
import GoSem.ClaimJoined
import GoSem.ClaimMapViews
import Derived.JoinedTies
import Derived.KernelRfl
namespace Go.Proofs.Ytnkcekgjppkbpaa
/- THE CELL 'sum', in the pinned program and in every row, IS THE sha256 OF THE DUMP (.gsa) THAT YtnkcekgjppkbpaaProg.lean LOADS. Nothing in Lean hashes anything: it is a label: what it is worth is what the hold of that sum in a sandbox is worth. -/
noncomputable def Try.pinned : Pinned := { name := "ytnkcekgjppkbpaa", sum := "b02ba8f18bcddb6c17d6731e8a2aa223c8a2da02b6bfa064af434050ad01ff8b", checked := Try.checked }
namespace Rows
def none {H : Type} : Left H := { results := [], args := [] }

/-- 'knelllaw03.PlanTurned': WHATEVER THE INPUT: true; the input reads as it did. -/
def planTurnedSpec : ChangeSpec := { name := "planTurned", fn := fun _ => fun
  | [d1, d2, d3] => { results := [.lit (.bool true)], args := [d1, d2, d3] }
  | _ => none }
def planTurnedRow : OpenClaim := { program := "ytnkcekgjppkbpaa", sum := "b02ba8f18bcddb6c17d6731e8a2aa223c8a2da02b6bfa064af434050ad01ff8b", func := "knell/knelllaw03.PlanTurned", spec := "planTurned", apart := false }
def PlanTurnedSaid : Prop := planTurnedRow.holds Try.pinned (OpenSpec.ofChange planTurnedSpec)

/-- ITS FALSE NEIGHBOUR: 'it returns false'. Refute it at one input. -/
def planTurnedWrong : ChangeSpec := { name := "planTurned", fn := fun _ => fun
  | [d1, d2, d3] => { results := [.lit (.bool false)], args := [d1, d2, d3] }
  | _ => none }
def PlanTurnedWrongFalsely : Prop := planTurnedRow.holds Try.pinned (OpenSpec.ofChange planTurnedWrong)

/-- 'knelllaw03.PlanChecks': WHATEVER THE INPUT: true; the input reads as it did. -/
def planChecksSpec : ChangeSpec := { name := "planChecks", fn := fun _ => fun
  | [d] => { results := [.lit (.bool true)], args := [d] }
  | _ => none }
def planChecksRow : OpenClaim := { program := "ytnkcekgjppkbpaa", sum := "b02ba8f18bcddb6c17d6731e8a2aa223c8a2da02b6bfa064af434050ad01ff8b", func := "knell/knelllaw03.PlanChecks", spec := "planChecks", apart := false }
def PlanChecksSaid : Prop := planChecksRow.holds Try.pinned (OpenSpec.ofChange planChecksSpec)

/-- ITS FALSE NEIGHBOUR: 'it returns false'. Refute it at one input. -/
def planChecksWrong : ChangeSpec := { name := "planChecks", fn := fun _ => fun
  | [d] => { results := [.lit (.bool false)], args := [d] }
  | _ => none }
def PlanChecksWrongFalsely : Prop := planChecksRow.holds Try.pinned (OpenSpec.ofChange planChecksWrong)

/-- 'knelllaw02.CellOne': WHATEVER THE INPUT: true; the input reads as it did. -/
def cellOneSpec : ChangeSpec := { name := "cellOne", fn := fun _ => fun
  | [d1, d2] => { results := [.lit (.bool true)], args := [d1, d2] }
  | _ => none }
def cellOneRow : OpenClaim := { program := "ytnkcekgjppkbpaa", sum := "b02ba8f18bcddb6c17d6731e8a2aa223c8a2da02b6bfa064af434050ad01ff8b", func := "knell/knelllaw02.CellOne", spec := "cellOne", inPlace := ["sync/atomic.AddInt64", "sync/atomic.CompareAndSwapUint64", "sync/atomic.LoadUint64", "sync/atomic.SwapUint64"], apart := false }
def CellOneSaid : Prop := cellOneRow.holds Try.pinned (OpenSpec.ofChange cellOneSpec)

/-- ITS FALSE NEIGHBOUR: 'it returns false'. Refute it at one input. -/
def cellOneWrong : ChangeSpec := { name := "cellOne", fn := fun _ => fun
  | [d1, d2] => { results := [.lit (.bool false)], args := [d1, d2] }
  | _ => none }
def CellOneWrongFalsely : Prop := cellOneRow.holds Try.pinned (OpenSpec.ofChange cellOneWrong)

/-- 'knelllaw02.CellAdds': WHATEVER THE INPUT: true; the input reads as it did. -/
def cellAddsSpec : ChangeSpec := { name := "cellAdds", fn := fun _ => fun
  | [d1, d2] => { results := [.lit (.bool true)], args := [d1, d2] }
  | _ => none }
def cellAddsRow : OpenClaim := { program := "ytnkcekgjppkbpaa", sum := "b02ba8f18bcddb6c17d6731e8a2aa223c8a2da02b6bfa064af434050ad01ff8b", func := "knell/knelllaw02.CellAdds", spec := "cellAdds", inPlace := ["sync/atomic.AddInt64", "sync/atomic.CompareAndSwapUint64", "sync/atomic.LoadUint64", "sync/atomic.StoreUint64", "sync/atomic.AddUint64", "sync/atomic.LoadInt64"], apart := false }
def CellAddsSaid : Prop := cellAddsRow.holds Try.pinned (OpenSpec.ofChange cellAddsSpec)

/-- ITS FALSE NEIGHBOUR: 'it returns false'. Refute it at one input. -/
def cellAddsWrong : ChangeSpec := { name := "cellAdds", fn := fun _ => fun
  | [d1, d2] => { results := [.lit (.bool false)], args := [d1, d2] }
  | _ => none }
def CellAddsWrongFalsely : Prop := cellAddsRow.holds Try.pinned (OpenSpec.ofChange cellAddsWrong)

/-- 'knelllaw02.CellOf': WHATEVER THE INPUT: true; the input reads as it did. -/
def cellOfSpec : ChangeSpec := { name := "cellOf", fn := fun _ => fun
  | [d] => { results := [.lit (.bool true)], args := [d] }
  | _ => none }
def cellOfRow : OpenClaim := { program := "ytnkcekgjppkbpaa", sum := "b02ba8f18bcddb6c17d6731e8a2aa223c8a2da02b6bfa064af434050ad01ff8b", func := "knell/knelllaw02.CellOf", spec := "cellOf", inPlace := ["sync/atomic.AddInt64", "sync/atomic.CompareAndSwapUint64", "sync/atomic.LoadUint64", "sync/atomic.StoreUint64", "sync/atomic.LoadInt64"], apart := false }
def CellOfSaid : Prop := cellOfRow.holds Try.pinned (OpenSpec.ofChange cellOfSpec)

/-- ITS FALSE NEIGHBOUR: 'it returns false'. Refute it at one input. -/
def cellOfWrong : ChangeSpec := { name := "cellOf", fn := fun _ => fun
  | [d] => { results := [.lit (.bool false)], args := [d] }
  | _ => none }
def CellOfWrongFalsely : Prop := cellOfRow.holds Try.pinned (OpenSpec.ofChange cellOfWrong)

/-- 'knelllaw02.CellLast': WHATEVER THE INPUT: true; the input reads as it did. -/
def cellLastSpec : ChangeSpec := { name := "cellLast", fn := fun _ => fun
  | [d] => { results := [.lit (.bool true)], args := [d] }
  | _ => none }
def cellLastRow : OpenClaim := { program := "ytnkcekgjppkbpaa", sum := "b02ba8f18bcddb6c17d6731e8a2aa223c8a2da02b6bfa064af434050ad01ff8b", func := "knell/knelllaw02.CellLast", spec := "cellLast", inPlace := ["sync/atomic.AddInt64", "sync/atomic.CompareAndSwapUint64", "sync/atomic.LoadUint64", "sync/atomic.StoreUint64", "sync/atomic.SwapUint64"], apart := false }
def CellLastSaid : Prop := cellLastRow.holds Try.pinned (OpenSpec.ofChange cellLastSpec)

/-- ITS FALSE NEIGHBOUR: 'it returns false'. Refute it at one input. -/
def cellLastWrong : ChangeSpec := { name := "cellLast", fn := fun _ => fun
  | [d] => { results := [.lit (.bool false)], args := [d] }
  | _ => none }
def CellLastWrongFalsely : Prop := cellLastRow.holds Try.pinned (OpenSpec.ofChange cellLastWrong)

/-- 'knelllaw03.PlanNone': WHATEVER THE INPUT: true; the input reads as it did. -/
def planNoneSpec : ChangeSpec := { name := "planNone", fn := fun _ => fun
  | [d1, d2, d3, d4, d5] => { results := [.lit (.bool true)], args := [d1, d2, d3, d4, d5] }
  | _ => none }
def planNoneRow : OpenClaim := { program := "ytnkcekgjppkbpaa", sum := "b02ba8f18bcddb6c17d6731e8a2aa223c8a2da02b6bfa064af434050ad01ff8b", func := "knell/knelllaw03.PlanNone", spec := "planNone", apart := false }
def PlanNoneSaid : Prop := planNoneRow.holds Try.pinned (OpenSpec.ofChange planNoneSpec)

/-- ITS FALSE NEIGHBOUR: 'it returns false'. Refute it at one input. -/
def planNoneWrong : ChangeSpec := { name := "planNone", fn := fun _ => fun
  | [d1, d2, d3, d4, d5] => { results := [.lit (.bool false)], args := [d1, d2, d3, d4, d5] }
  | _ => none }
def PlanNoneWrongFalsely : Prop := planNoneRow.holds Try.pinned (OpenSpec.ofChange planNoneWrong)

/-- 'knelllaw02.CellPlays': WHATEVER THE INPUT: true; the input reads as it did. -/
def cellPlaysSpec : ChangeSpec := { name := "cellPlays", fn := fun _ => fun
  | [d1, d2] => { results := [.lit (.bool true)], args := [d1, d2] }
  | _ => none }
def cellPlaysRow : OpenClaim := { program := "ytnkcekgjppkbpaa", sum := "b02ba8f18bcddb6c17d6731e8a2aa223c8a2da02b6bfa064af434050ad01ff8b", func := "knell/knelllaw02.CellPlays", spec := "cellPlays", inPlace := ["sync/atomic.AddInt64", "sync/atomic.CompareAndSwapUint64", "sync/atomic.LoadUint64", "sync/atomic.StoreUint64", "sync/atomic.SwapUint64", "sync/atomic.AddUint64", "sync/atomic.LoadInt64"], apart := false }
def CellPlaysSaid : Prop := cellPlaysRow.holds Try.pinned (OpenSpec.ofChange cellPlaysSpec)

/-- ITS FALSE NEIGHBOUR: 'it returns false'. Refute it at one input. -/
def cellPlaysWrong : ChangeSpec := { name := "cellPlays", fn := fun _ => fun
  | [d1, d2] => { results := [.lit (.bool false)], args := [d1, d2] }
  | _ => none }
def CellPlaysWrongFalsely : Prop := cellPlaysRow.holds Try.pinned (OpenSpec.ofChange cellPlaysWrong)

/-- 'knelllaw03.PlanUnlike': WHATEVER THE INPUT: true; the input reads as it did. -/
def planUnlikeSpec : ChangeSpec := { name := "planUnlike", fn := fun _ => fun
  | [d] => { results := [.lit (.bool true)], args := [d] }
  | _ => none }
def planUnlikeRow : OpenClaim := { program := "ytnkcekgjppkbpaa", sum := "b02ba8f18bcddb6c17d6731e8a2aa223c8a2da02b6bfa064af434050ad01ff8b", func := "knell/knelllaw03.PlanUnlike", spec := "planUnlike", apart := false }
def PlanUnlikeSaid : Prop := planUnlikeRow.holds Try.pinned (OpenSpec.ofChange planUnlikeSpec)

/-- ITS FALSE NEIGHBOUR: 'it returns false'. Refute it at one input. -/
def planUnlikeWrong : ChangeSpec := { name := "planUnlike", fn := fun _ => fun
  | [d] => { results := [.lit (.bool false)], args := [d] }
  | _ => none }
def PlanUnlikeWrongFalsely : Prop := planUnlikeRow.holds Try.pinned (OpenSpec.ofChange planUnlikeWrong)

/-- 'knelllaw03.PlanFresh': WHATEVER THE INPUT: true; the input reads as it did. -/
def planFreshSpec : ChangeSpec := { name := "planFresh", fn := fun _ => fun
  | [d] => { results := [.lit (.bool true)], args := [d] }
  | _ => none }
def planFreshRow : OpenClaim := { program := "ytnkcekgjppkbpaa", sum := "b02ba8f18bcddb6c17d6731e8a2aa223c8a2da02b6bfa064af434050ad01ff8b", func := "knell/knelllaw03.PlanFresh", spec := "planFresh", inPlace := ["sync/atomic.StoreUint64", "sync/atomic.LoadInt64", "sync/atomic.LoadUint64", "sync/atomic.AddInt64"], unfollowed := true, recurses := true, apart := false }
def PlanFreshSaid : Prop := planFreshRow.holds Try.pinned (OpenSpec.ofChange planFreshSpec)

/-- ITS FALSE NEIGHBOUR: 'it returns false'. Refute it at one input. -/
def planFreshWrong : ChangeSpec := { name := "planFresh", fn := fun _ => fun
  | [d] => { results := [.lit (.bool false)], args := [d] }
  | _ => none }
def PlanFreshWrongFalsely : Prop := planFreshRow.holds Try.pinned (OpenSpec.ofChange planFreshWrong)

/- THE SECOND FORM. 'bulk': how many values and letters a reading holds, each counted each time it is reached (what is shared counts as often as it is met; a slice's spare places count too). A statement '..UptoSaid' is the law's where the arguments, and the package variables that the reading takes, are together of bulk at most 1048576: NARROWER than '..Said'. Prove '..Said' where nothing that the law and all that it calls make is longer than what came in: it says more and counts as full. Else prove '..UptoSaid'. A law counts once. -/
mutual
def uptoBulk {H : Type} : DataW H → Nat
  | .lit (.string bytes) => bytes.length + 1
  | .lit _ => 1
  | .nil => 1
  | .ptr d => uptoBulk d + 1
  | .slice elems spare => uptoBulkAll elems + uptoBulkAll spare + 1
  | .agg parts => uptoBulkAll parts + 1
  | .iface _ d => uptoBulk d + 1
  | .map entries => uptoBulkEntries entries + 1
  | .held _ => 1
def uptoBulkAll {H : Type} : List (DataW H) → Nat
  | [] => 0
  | d :: r => uptoBulk d + uptoBulkAll r
def uptoBulkEntries {H : Type} : List (Lit × DataW H) → Nat
  | [] => 0
  | x :: r => uptoBulkEntry x + uptoBulkEntries r
def uptoBulkEntry {H : Type} : Lit × DataW H → Nat
  | (.string bytes, d) => bytes.length + uptoBulk d + 1
  | (_, d) => uptoBulk d + 1
 end
def uptoSmall : (H : Type) → List (DataW H) → Bool := fun _ ds => decide (uptoBulkAll ds ≤ 1048576)
def OpenSpec.upto (s : _root_.Go.ChangeSpec) : _root_.Go.OpenSpec := { _root_.Go.OpenSpec.ofChange s with cond := some uptoSmall }

/-- 'knelllaw03.PlanTurned', WHERE WHAT IT READS IS OF BULK AT MOST 1048576: true; the input reads as it did. -/
def planTurnedUptoRow : OpenClaim := { program := "ytnkcekgjppkbpaa", sum := "b02ba8f18bcddb6c17d6731e8a2aa223c8a2da02b6bfa064af434050ad01ff8b", func := "knell/knelllaw03.PlanTurned", spec := "planTurned", apart := false, narrowed := true }
def PlanTurnedUptoSaid : Prop := planTurnedUptoRow.holds Try.pinned (OpenSpec.upto planTurnedSpec)

/-- 'knelllaw03.PlanChecks', WHERE WHAT IT READS IS OF BULK AT MOST 1048576: true; the input reads as it did. -/
def planChecksUptoRow : OpenClaim := { program := "ytnkcekgjppkbpaa", sum := "b02ba8f18bcddb6c17d6731e8a2aa223c8a2da02b6bfa064af434050ad01ff8b", func := "knell/knelllaw03.PlanChecks", spec := "planChecks", apart := false, narrowed := true }
def PlanChecksUptoSaid : Prop := planChecksUptoRow.holds Try.pinned (OpenSpec.upto planChecksSpec)

/-- 'knelllaw02.CellOne', WHERE WHAT IT READS IS OF BULK AT MOST 1048576: true; the input reads as it did. -/
def cellOneUptoRow : OpenClaim := { program := "ytnkcekgjppkbpaa", sum := "b02ba8f18bcddb6c17d6731e8a2aa223c8a2da02b6bfa064af434050ad01ff8b", func := "knell/knelllaw02.CellOne", spec := "cellOne", inPlace := ["sync/atomic.AddInt64", "sync/atomic.CompareAndSwapUint64", "sync/atomic.LoadUint64", "sync/atomic.SwapUint64"], apart := false, narrowed := true }
def CellOneUptoSaid : Prop := cellOneUptoRow.holds Try.pinned (OpenSpec.upto cellOneSpec)

/-- 'knelllaw02.CellAdds', WHERE WHAT IT READS IS OF BULK AT MOST 1048576: true; the input reads as it did. -/
def cellAddsUptoRow : OpenClaim := { program := "ytnkcekgjppkbpaa", sum := "b02ba8f18bcddb6c17d6731e8a2aa223c8a2da02b6bfa064af434050ad01ff8b", func := "knell/knelllaw02.CellAdds", spec := "cellAdds", inPlace := ["sync/atomic.AddInt64", "sync/atomic.CompareAndSwapUint64", "sync/atomic.LoadUint64", "sync/atomic.StoreUint64", "sync/atomic.AddUint64", "sync/atomic.LoadInt64"], apart := false, narrowed := true }
def CellAddsUptoSaid : Prop := cellAddsUptoRow.holds Try.pinned (OpenSpec.upto cellAddsSpec)

/-- 'knelllaw02.CellOf', WHERE WHAT IT READS IS OF BULK AT MOST 1048576: true; the input reads as it did. -/
def cellOfUptoRow : OpenClaim := { program := "ytnkcekgjppkbpaa", sum := "b02ba8f18bcddb6c17d6731e8a2aa223c8a2da02b6bfa064af434050ad01ff8b", func := "knell/knelllaw02.CellOf", spec := "cellOf", inPlace := ["sync/atomic.AddInt64", "sync/atomic.CompareAndSwapUint64", "sync/atomic.LoadUint64", "sync/atomic.StoreUint64", "sync/atomic.LoadInt64"], apart := false, narrowed := true }
def CellOfUptoSaid : Prop := cellOfUptoRow.holds Try.pinned (OpenSpec.upto cellOfSpec)

/-- 'knelllaw02.CellLast', WHERE WHAT IT READS IS OF BULK AT MOST 1048576: true; the input reads as it did. -/
def cellLastUptoRow : OpenClaim := { program := "ytnkcekgjppkbpaa", sum := "b02ba8f18bcddb6c17d6731e8a2aa223c8a2da02b6bfa064af434050ad01ff8b", func := "knell/knelllaw02.CellLast", spec := "cellLast", inPlace := ["sync/atomic.AddInt64", "sync/atomic.CompareAndSwapUint64", "sync/atomic.LoadUint64", "sync/atomic.StoreUint64", "sync/atomic.SwapUint64"], apart := false, narrowed := true }
def CellLastUptoSaid : Prop := cellLastUptoRow.holds Try.pinned (OpenSpec.upto cellLastSpec)

/-- 'knelllaw03.PlanNone', WHERE WHAT IT READS IS OF BULK AT MOST 1048576: true; the input reads as it did. -/
def planNoneUptoRow : OpenClaim := { program := "ytnkcekgjppkbpaa", sum := "b02ba8f18bcddb6c17d6731e8a2aa223c8a2da02b6bfa064af434050ad01ff8b", func := "knell/knelllaw03.PlanNone", spec := "planNone", apart := false, narrowed := true }
def PlanNoneUptoSaid : Prop := planNoneUptoRow.holds Try.pinned (OpenSpec.upto planNoneSpec)

/-- 'knelllaw02.CellPlays', WHERE WHAT IT READS IS OF BULK AT MOST 1048576: true; the input reads as it did. -/
def cellPlaysUptoRow : OpenClaim := { program := "ytnkcekgjppkbpaa", sum := "b02ba8f18bcddb6c17d6731e8a2aa223c8a2da02b6bfa064af434050ad01ff8b", func := "knell/knelllaw02.CellPlays", spec := "cellPlays", inPlace := ["sync/atomic.AddInt64", "sync/atomic.CompareAndSwapUint64", "sync/atomic.LoadUint64", "sync/atomic.StoreUint64", "sync/atomic.SwapUint64", "sync/atomic.AddUint64", "sync/atomic.LoadInt64"], apart := false, narrowed := true }
def CellPlaysUptoSaid : Prop := cellPlaysUptoRow.holds Try.pinned (OpenSpec.upto cellPlaysSpec)

/-- 'knelllaw03.PlanUnlike', WHERE WHAT IT READS IS OF BULK AT MOST 1048576: true; the input reads as it did. -/
def planUnlikeUptoRow : OpenClaim := { program := "ytnkcekgjppkbpaa", sum := "b02ba8f18bcddb6c17d6731e8a2aa223c8a2da02b6bfa064af434050ad01ff8b", func := "knell/knelllaw03.PlanUnlike", spec := "planUnlike", apart := false, narrowed := true }
def PlanUnlikeUptoSaid : Prop := planUnlikeUptoRow.holds Try.pinned (OpenSpec.upto planUnlikeSpec)

/-- 'knelllaw03.PlanFresh', WHERE WHAT IT READS IS OF BULK AT MOST 1048576: true; the input reads as it did. -/
def planFreshUptoRow : OpenClaim := { program := "ytnkcekgjppkbpaa", sum := "b02ba8f18bcddb6c17d6731e8a2aa223c8a2da02b6bfa064af434050ad01ff8b", func := "knell/knelllaw03.PlanFresh", spec := "planFresh", inPlace := ["sync/atomic.StoreUint64", "sync/atomic.LoadInt64", "sync/atomic.LoadUint64", "sync/atomic.AddInt64"], unfollowed := true, recurses := true, apart := false, narrowed := true }
def PlanFreshUptoSaid : Prop := planFreshUptoRow.holds Try.pinned (OpenSpec.upto planFreshSpec)

end Rows
end Go.Proofs.Ytnkcekgjppkbpaa
