/-
  No cell of these rows narrows 'for every input' (looked for: loops, veiled, ifaces, maps, wideKeys, modest, calm, conditions, laid).
  DERIVED. THE GIVEN ROWS OF THIS SEAT. 9 by the template 'for every input the law returns true; each argument reads behind the call as it read before'; 0 by the template 'total and deterministic' (their statements: YtndpkonihcebeaaTotals.lean).
  GIVEN WITH THE SEED: the statements are not yours to turn. If you find one false, say at which input.
  Laid BY PROGRAM, IN A SANDBOX (cutbox-rows.mjs): the forced cells as the released guide's own fill.sh prints them over the translation 1b1ae84c5d4b1810… (all of the seat's roots in one cut). By AI agents, Wed Nov 11 2026. No macro, syntax, notation, axiom, sorry.
-/
import Derived.Test.YtndpkonihcebeaaChecked
import GoSem.Claim
import GoSem.ClaimJoined
import GoSem.ClaimMapViews
import Derived.JoinedTies
import Derived.KernelRfl
namespace Go.Proofs.Ytndpkonihcebeaa
/- THE CELL 'sum', in the pinned program and in every row, IS THE sha256 OF THE DUMP (.gsa) THAT YtndpkonihcebeaaProg.lean LOADS. Nothing in Lean hashes anything: it is a label: what it is worth is what the hold of that sum in a sandbox is worth. -/
noncomputable def Try.pinned : Pinned := { name := "ytndpkonihcebeaa", sum := "1b1ae84c5d4b1810b73587222bc7335b7891bfe35d635c1945a609bea50c38e5", checked := Try.checked }
namespace Rows
def none {H : Type} : Left H := { results := [], args := [] }

/-- 'knelllaw09.InboxOrder': WHATEVER THE INPUT: true; the input reads as it did. -/
def inboxOrderSpec : ChangeSpec := { name := "inboxOrder", fn := fun _ => fun
  | [d1, d2, d3] => { results := [.lit (.bool true)], args := [d1, d2, d3] }
  | _ => none }
def inboxOrderRow : OpenClaim := { program := "ytndpkonihcebeaa", sum := "1b1ae84c5d4b1810b73587222bc7335b7891bfe35d635c1945a609bea50c38e5", func := "knell/knelllaw09.InboxOrder", spec := "inboxOrder", inPlace := ["sync/atomic.AddInt64", "sync/atomic.LoadUint64", "sync/atomic.CompareAndSwapUint64", "sync/atomic.StoreUint64"], unfollowed := true, recurses := true, apart := false }
def InboxOrderSaid : Prop := inboxOrderRow.holds Try.pinned (OpenSpec.ofChange inboxOrderSpec)

/-- ITS FALSE NEIGHBOUR: 'it returns false'. Refute it at one input. -/
def inboxOrderWrong : ChangeSpec := { name := "inboxOrder", fn := fun _ => fun
  | [d1, d2, d3] => { results := [.lit (.bool false)], args := [d1, d2, d3] }
  | _ => none }
def InboxOrderWrongFalsely : Prop := inboxOrderRow.holds Try.pinned (OpenSpec.ofChange inboxOrderWrong)

/-- 'knelllaw09.InboxDrains': WHATEVER THE INPUT: true; the input reads as it did. -/
def inboxDrainsSpec : ChangeSpec := { name := "inboxDrains", fn := fun _ => fun
  | [d1, d2] => { results := [.lit (.bool true)], args := [d1, d2] }
  | _ => none }
def inboxDrainsRow : OpenClaim := { program := "ytndpkonihcebeaa", sum := "1b1ae84c5d4b1810b73587222bc7335b7891bfe35d635c1945a609bea50c38e5", func := "knell/knelllaw09.InboxDrains", spec := "inboxDrains", inPlace := ["sync/atomic.AddInt64", "sync/atomic.LoadUint64", "sync/atomic.CompareAndSwapUint64", "sync/atomic.StoreUint64"], unfollowed := true, recurses := true, apart := false }
def InboxDrainsSaid : Prop := inboxDrainsRow.holds Try.pinned (OpenSpec.ofChange inboxDrainsSpec)

/-- ITS FALSE NEIGHBOUR: 'it returns false'. Refute it at one input. -/
def inboxDrainsWrong : ChangeSpec := { name := "inboxDrains", fn := fun _ => fun
  | [d1, d2] => { results := [.lit (.bool false)], args := [d1, d2] }
  | _ => none }
def InboxDrainsWrongFalsely : Prop := inboxDrainsRow.holds Try.pinned (OpenSpec.ofChange inboxDrainsWrong)

/-- 'knelllaw09.InboxAlone': WHATEVER THE INPUT: true; the input reads as it did. -/
def inboxAloneSpec : ChangeSpec := { name := "inboxAlone", fn := fun _ => fun
  | [d] => { results := [.lit (.bool true)], args := [d] }
  | _ => none }
def inboxAloneRow : OpenClaim := { program := "ytndpkonihcebeaa", sum := "1b1ae84c5d4b1810b73587222bc7335b7891bfe35d635c1945a609bea50c38e5", func := "knell/knelllaw09.InboxAlone", spec := "inboxAlone", inPlace := ["sync/atomic.AddInt64", "sync/atomic.LoadUint64", "sync/atomic.CompareAndSwapUint64", "sync/atomic.StoreUint64"], unfollowed := true, recurses := true, apart := false }
def InboxAloneSaid : Prop := inboxAloneRow.holds Try.pinned (OpenSpec.ofChange inboxAloneSpec)

/-- ITS FALSE NEIGHBOUR: 'it returns false'. Refute it at one input. -/
def inboxAloneWrong : ChangeSpec := { name := "inboxAlone", fn := fun _ => fun
  | [d] => { results := [.lit (.bool false)], args := [d] }
  | _ => none }
def InboxAloneWrongFalsely : Prop := inboxAloneRow.holds Try.pinned (OpenSpec.ofChange inboxAloneWrong)

/-- 'knelllaw09.InboxAgain': WHATEVER THE INPUT: true; the input reads as it did. -/
def inboxAgainSpec : ChangeSpec := { name := "inboxAgain", fn := fun _ => fun
  | [d1, d2] => { results := [.lit (.bool true)], args := [d1, d2] }
  | _ => none }
def inboxAgainRow : OpenClaim := { program := "ytndpkonihcebeaa", sum := "1b1ae84c5d4b1810b73587222bc7335b7891bfe35d635c1945a609bea50c38e5", func := "knell/knelllaw09.InboxAgain", spec := "inboxAgain", inPlace := ["sync/atomic.AddInt64", "sync/atomic.LoadUint64", "sync/atomic.CompareAndSwapUint64", "sync/atomic.StoreUint64"], unfollowed := true, recurses := true, apart := false }
def InboxAgainSaid : Prop := inboxAgainRow.holds Try.pinned (OpenSpec.ofChange inboxAgainSpec)

/-- ITS FALSE NEIGHBOUR: 'it returns false'. Refute it at one input. -/
def inboxAgainWrong : ChangeSpec := { name := "inboxAgain", fn := fun _ => fun
  | [d1, d2] => { results := [.lit (.bool false)], args := [d1, d2] }
  | _ => none }
def InboxAgainWrongFalsely : Prop := inboxAgainRow.holds Try.pinned (OpenSpec.ofChange inboxAgainWrong)

/-- 'knelllaw09.InboxMany': WHATEVER THE INPUT: true; the input reads as it did. -/
def inboxManySpec : ChangeSpec := { name := "inboxMany", fn := fun _ => fun
  | [d1, d2, d3, d4] => { results := [.lit (.bool true)], args := [d1, d2, d3, d4] }
  | _ => none }
def inboxManyRow : OpenClaim := { program := "ytndpkonihcebeaa", sum := "1b1ae84c5d4b1810b73587222bc7335b7891bfe35d635c1945a609bea50c38e5", func := "knell/knelllaw09.InboxMany", spec := "inboxMany", inPlace := ["sync/atomic.AddInt64", "sync/atomic.LoadUint64", "sync/atomic.CompareAndSwapUint64", "sync/atomic.StoreUint64", "sync/atomic.LoadInt64"], unfollowed := true, recurses := true, apart := false }
def InboxManySaid : Prop := inboxManyRow.holds Try.pinned (OpenSpec.ofChange inboxManySpec)

/-- ITS FALSE NEIGHBOUR: 'it returns false'. Refute it at one input. -/
def inboxManyWrong : ChangeSpec := { name := "inboxMany", fn := fun _ => fun
  | [d1, d2, d3, d4] => { results := [.lit (.bool false)], args := [d1, d2, d3, d4] }
  | _ => none }
def InboxManyWrongFalsely : Prop := inboxManyRow.holds Try.pinned (OpenSpec.ofChange inboxManyWrong)

/-- 'knelllaw10.WheelPlays': WHATEVER THE INPUT: true; the input reads as it did. -/
def wheelPlaysSpec : ChangeSpec := { name := "wheelPlays", fn := fun _ => fun
  | [d1, d2, d3, d4] => { results := [.lit (.bool true)], args := [d1, d2, d3, d4] }
  | _ => none }
def wheelPlaysRow : OpenClaim := { program := "ytndpkonihcebeaa", sum := "1b1ae84c5d4b1810b73587222bc7335b7891bfe35d635c1945a609bea50c38e5", func := "knell/knelllaw10.WheelPlays", spec := "wheelPlays", inPlace := ["sync/atomic.AddInt64", "sync/atomic.StoreUint64", "sync/atomic.LoadUint64", "sync/atomic.LoadInt64", "sync/atomic.SwapUint64"], unfollowed := true, recurses := true, apart := false }
def WheelPlaysSaid : Prop := wheelPlaysRow.holds Try.pinned (OpenSpec.ofChange wheelPlaysSpec)

/-- ITS FALSE NEIGHBOUR: 'it returns false'. Refute it at one input. -/
def wheelPlaysWrong : ChangeSpec := { name := "wheelPlays", fn := fun _ => fun
  | [d1, d2, d3, d4] => { results := [.lit (.bool false)], args := [d1, d2, d3, d4] }
  | _ => none }
def WheelPlaysWrongFalsely : Prop := wheelPlaysRow.holds Try.pinned (OpenSpec.ofChange wheelPlaysWrong)

/-- 'knelllaw10.WheelDue': WHATEVER THE INPUT: true; the input reads as it did. -/
def wheelDueSpec : ChangeSpec := { name := "wheelDue", fn := fun _ => fun
  | [d1, d2, d3, d4] => { results := [.lit (.bool true)], args := [d1, d2, d3, d4] }
  | _ => none }
def wheelDueRow : OpenClaim := { program := "ytndpkonihcebeaa", sum := "1b1ae84c5d4b1810b73587222bc7335b7891bfe35d635c1945a609bea50c38e5", func := "knell/knelllaw10.WheelDue", spec := "wheelDue", inPlace := ["sync/atomic.AddInt64", "sync/atomic.StoreUint64", "sync/atomic.LoadUint64", "sync/atomic.LoadInt64", "sync/atomic.SwapUint64"], unfollowed := true, recurses := true, apart := false }
def WheelDueSaid : Prop := wheelDueRow.holds Try.pinned (OpenSpec.ofChange wheelDueSpec)

/-- ITS FALSE NEIGHBOUR: 'it returns false'. Refute it at one input. -/
def wheelDueWrong : ChangeSpec := { name := "wheelDue", fn := fun _ => fun
  | [d1, d2, d3, d4] => { results := [.lit (.bool false)], args := [d1, d2, d3, d4] }
  | _ => none }
def WheelDueWrongFalsely : Prop := wheelDueRow.holds Try.pinned (OpenSpec.ofChange wheelDueWrong)

/-- 'knelllaw10.WheelEmpties': WHATEVER THE INPUT: true; the input reads as it did. -/
def wheelEmptiesSpec : ChangeSpec := { name := "wheelEmpties", fn := fun _ => fun
  | [d1, d2, d3, d4] => { results := [.lit (.bool true)], args := [d1, d2, d3, d4] }
  | _ => none }
def wheelEmptiesRow : OpenClaim := { program := "ytndpkonihcebeaa", sum := "1b1ae84c5d4b1810b73587222bc7335b7891bfe35d635c1945a609bea50c38e5", func := "knell/knelllaw10.WheelEmpties", spec := "wheelEmpties", inPlace := ["sync/atomic.AddInt64", "sync/atomic.StoreUint64", "sync/atomic.LoadUint64", "sync/atomic.LoadInt64", "sync/atomic.SwapUint64"], unfollowed := true, recurses := true, apart := false }
def WheelEmptiesSaid : Prop := wheelEmptiesRow.holds Try.pinned (OpenSpec.ofChange wheelEmptiesSpec)

/-- ITS FALSE NEIGHBOUR: 'it returns false'. Refute it at one input. -/
def wheelEmptiesWrong : ChangeSpec := { name := "wheelEmpties", fn := fun _ => fun
  | [d1, d2, d3, d4] => { results := [.lit (.bool false)], args := [d1, d2, d3, d4] }
  | _ => none }
def WheelEmptiesWrongFalsely : Prop := wheelEmptiesRow.holds Try.pinned (OpenSpec.ofChange wheelEmptiesWrong)

/-- 'knelllaw10.WheelStays': WHATEVER THE INPUT: true; the input reads as it did. -/
def wheelStaysSpec : ChangeSpec := { name := "wheelStays", fn := fun _ => fun
  | [d1, d2, d3, d4, d5] => { results := [.lit (.bool true)], args := [d1, d2, d3, d4, d5] }
  | _ => none }
def wheelStaysRow : OpenClaim := { program := "ytndpkonihcebeaa", sum := "1b1ae84c5d4b1810b73587222bc7335b7891bfe35d635c1945a609bea50c38e5", func := "knell/knelllaw10.WheelStays", spec := "wheelStays", inPlace := ["sync/atomic.AddInt64", "sync/atomic.StoreUint64", "sync/atomic.LoadUint64", "sync/atomic.LoadInt64", "sync/atomic.SwapUint64"], unfollowed := true, recurses := true, apart := false }
def WheelStaysSaid : Prop := wheelStaysRow.holds Try.pinned (OpenSpec.ofChange wheelStaysSpec)

/-- ITS FALSE NEIGHBOUR: 'it returns false'. Refute it at one input. -/
def wheelStaysWrong : ChangeSpec := { name := "wheelStays", fn := fun _ => fun
  | [d1, d2, d3, d4, d5] => { results := [.lit (.bool false)], args := [d1, d2, d3, d4, d5] }
  | _ => none }
def WheelStaysWrongFalsely : Prop := wheelStaysRow.holds Try.pinned (OpenSpec.ofChange wheelStaysWrong)

/- THE SECOND FORM. 'bulk': how many values and letters a reading holds, each counted each time it is reached (what is shared counts as often as it is met; a slice's spare places count too). A statement '..UptoSaid' is the law's where the arguments, and the package variables that the reading takes, are together of bulk at most 1048576: NARROWER than '..Said'. Prove '..Said' where nothing that the law and all that it calls make is longer than what came in: it says more and counts as full. Else prove '..UptoSaid'. A law counts once. -/
mutual
def uptoBulk {H : Type} : DataW H → Nat
  | .lit (.string bytes) => bytes.length + 1
  | .lit _ => 1
  | .nil => 1
  | .ptr d => uptoBulk d + 1
  | .slice elems spare => uptoBulkAll elems + uptoBulkAll spare + 1
  | .agg parts => uptoBulkAll parts + 1
  | .iface _ d => uptoBulk d + 1
  | .map entries => uptoBulkEntries entries + 1
  | .held _ => 1
def uptoBulkAll {H : Type} : List (DataW H) → Nat
  | [] => 0
  | d :: r => uptoBulk d + uptoBulkAll r
def uptoBulkEntries {H : Type} : List (Lit × DataW H) → Nat
  | [] => 0
  | x :: r => uptoBulkEntry x + uptoBulkEntries r
def uptoBulkEntry {H : Type} : Lit × DataW H → Nat
  | (.string bytes, d) => bytes.length + uptoBulk d + 1
  | (_, d) => uptoBulk d + 1
 end
def uptoSmall : (H : Type) → List (DataW H) → Bool := fun _ ds => decide (uptoBulkAll ds ≤ 1048576)
def OpenSpec.upto (s : _root_.Go.ChangeSpec) : _root_.Go.OpenSpec := { _root_.Go.OpenSpec.ofChange s with cond := some uptoSmall }

/-- 'knelllaw09.InboxOrder', WHERE WHAT IT READS IS OF BULK AT MOST 1048576: true; the input reads as it did. -/
def inboxOrderUptoRow : OpenClaim := { program := "ytndpkonihcebeaa", sum := "1b1ae84c5d4b1810b73587222bc7335b7891bfe35d635c1945a609bea50c38e5", func := "knell/knelllaw09.InboxOrder", spec := "inboxOrder", inPlace := ["sync/atomic.AddInt64", "sync/atomic.LoadUint64", "sync/atomic.CompareAndSwapUint64", "sync/atomic.StoreUint64"], unfollowed := true, recurses := true, apart := false, narrowed := true }
def InboxOrderUptoSaid : Prop := inboxOrderUptoRow.holds Try.pinned (OpenSpec.upto inboxOrderSpec)

/-- 'knelllaw09.InboxDrains', WHERE WHAT IT READS IS OF BULK AT MOST 1048576: true; the input reads as it did. -/
def inboxDrainsUptoRow : OpenClaim := { program := "ytndpkonihcebeaa", sum := "1b1ae84c5d4b1810b73587222bc7335b7891bfe35d635c1945a609bea50c38e5", func := "knell/knelllaw09.InboxDrains", spec := "inboxDrains", inPlace := ["sync/atomic.AddInt64", "sync/atomic.LoadUint64", "sync/atomic.CompareAndSwapUint64", "sync/atomic.StoreUint64"], unfollowed := true, recurses := true, apart := false, narrowed := true }
def InboxDrainsUptoSaid : Prop := inboxDrainsUptoRow.holds Try.pinned (OpenSpec.upto inboxDrainsSpec)

/-- 'knelllaw09.InboxAlone', WHERE WHAT IT READS IS OF BULK AT MOST 1048576: true; the input reads as it did. -/
def inboxAloneUptoRow : OpenClaim := { program := "ytndpkonihcebeaa", sum := "1b1ae84c5d4b1810b73587222bc7335b7891bfe35d635c1945a609bea50c38e5", func := "knell/knelllaw09.InboxAlone", spec := "inboxAlone", inPlace := ["sync/atomic.AddInt64", "sync/atomic.LoadUint64", "sync/atomic.CompareAndSwapUint64", "sync/atomic.StoreUint64"], unfollowed := true, recurses := true, apart := false, narrowed := true }
def InboxAloneUptoSaid : Prop := inboxAloneUptoRow.holds Try.pinned (OpenSpec.upto inboxAloneSpec)

/-- 'knelllaw09.InboxAgain', WHERE WHAT IT READS IS OF BULK AT MOST 1048576: true; the input reads as it did. -/
def inboxAgainUptoRow : OpenClaim := { program := "ytndpkonihcebeaa", sum := "1b1ae84c5d4b1810b73587222bc7335b7891bfe35d635c1945a609bea50c38e5", func := "knell/knelllaw09.InboxAgain", spec := "inboxAgain", inPlace := ["sync/atomic.AddInt64", "sync/atomic.LoadUint64", "sync/atomic.CompareAndSwapUint64", "sync/atomic.StoreUint64"], unfollowed := true, recurses := true, apart := false, narrowed := true }
def InboxAgainUptoSaid : Prop := inboxAgainUptoRow.holds Try.pinned (OpenSpec.upto inboxAgainSpec)

/-- 'knelllaw09.InboxMany', WHERE WHAT IT READS IS OF BULK AT MOST 1048576: true; the input reads as it did. -/
def inboxManyUptoRow : OpenClaim := { program := "ytndpkonihcebeaa", sum := "1b1ae84c5d4b1810b73587222bc7335b7891bfe35d635c1945a609bea50c38e5", func := "knell/knelllaw09.InboxMany", spec := "inboxMany", inPlace := ["sync/atomic.AddInt64", "sync/atomic.LoadUint64", "sync/atomic.CompareAndSwapUint64", "sync/atomic.StoreUint64", "sync/atomic.LoadInt64"], unfollowed := true, recurses := true, apart := false, narrowed := true }
def InboxManyUptoSaid : Prop := inboxManyUptoRow.holds Try.pinned (OpenSpec.upto inboxManySpec)

/-- 'knelllaw10.WheelPlays', WHERE WHAT IT READS IS OF BULK AT MOST 1048576: true; the input reads as it did. -/
def wheelPlaysUptoRow : OpenClaim := { program := "ytndpkonihcebeaa", sum := "1b1ae84c5d4b1810b73587222bc7335b7891bfe35d635c1945a609bea50c38e5", func := "knell/knelllaw10.WheelPlays", spec := "wheelPlays", inPlace := ["sync/atomic.AddInt64", "sync/atomic.StoreUint64", "sync/atomic.LoadUint64", "sync/atomic.LoadInt64", "sync/atomic.SwapUint64"], unfollowed := true, recurses := true, apart := false, narrowed := true }
def WheelPlaysUptoSaid : Prop := wheelPlaysUptoRow.holds Try.pinned (OpenSpec.upto wheelPlaysSpec)

/-- 'knelllaw10.WheelDue', WHERE WHAT IT READS IS OF BULK AT MOST 1048576: true; the input reads as it did. -/
def wheelDueUptoRow : OpenClaim := { program := "ytndpkonihcebeaa", sum := "1b1ae84c5d4b1810b73587222bc7335b7891bfe35d635c1945a609bea50c38e5", func := "knell/knelllaw10.WheelDue", spec := "wheelDue", inPlace := ["sync/atomic.AddInt64", "sync/atomic.StoreUint64", "sync/atomic.LoadUint64", "sync/atomic.LoadInt64", "sync/atomic.SwapUint64"], unfollowed := true, recurses := true, apart := false, narrowed := true }
def WheelDueUptoSaid : Prop := wheelDueUptoRow.holds Try.pinned (OpenSpec.upto wheelDueSpec)

/-- 'knelllaw10.WheelEmpties', WHERE WHAT IT READS IS OF BULK AT MOST 1048576: true; the input reads as it did. -/
def wheelEmptiesUptoRow : OpenClaim := { program := "ytndpkonihcebeaa", sum := "1b1ae84c5d4b1810b73587222bc7335b7891bfe35d635c1945a609bea50c38e5", func := "knell/knelllaw10.WheelEmpties", spec := "wheelEmpties", inPlace := ["sync/atomic.AddInt64", "sync/atomic.StoreUint64", "sync/atomic.LoadUint64", "sync/atomic.LoadInt64", "sync/atomic.SwapUint64"], unfollowed := true, recurses := true, apart := false, narrowed := true }
def WheelEmptiesUptoSaid : Prop := wheelEmptiesUptoRow.holds Try.pinned (OpenSpec.upto wheelEmptiesSpec)

/-- 'knelllaw10.WheelStays', WHERE WHAT IT READS IS OF BULK AT MOST 1048576: true; the input reads as it did. -/
def wheelStaysUptoRow : OpenClaim := { program := "ytndpkonihcebeaa", sum := "1b1ae84c5d4b1810b73587222bc7335b7891bfe35d635c1945a609bea50c38e5", func := "knell/knelllaw10.WheelStays", spec := "wheelStays", inPlace := ["sync/atomic.AddInt64", "sync/atomic.StoreUint64", "sync/atomic.LoadUint64", "sync/atomic.LoadInt64", "sync/atomic.SwapUint64"], unfollowed := true, recurses := true, apart := false, narrowed := true }
def WheelStaysUptoSaid : Prop := wheelStaysUptoRow.holds Try.pinned (OpenSpec.upto wheelStaysSpec)

end Rows
end Go.Proofs.Ytndpkonihcebeaa
