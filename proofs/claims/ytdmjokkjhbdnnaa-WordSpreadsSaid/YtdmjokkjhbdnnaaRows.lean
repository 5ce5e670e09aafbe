/-
  No cell of these rows narrows 'for every input' (looked for: loops, veiled, ifaces, maps, wideKeys, modest, calm, conditions, laid).
  DERIVED. THE GIVEN ROWS OF THIS SEAT. 10 by the template 'for every input the law returns true; each argument reads behind the call as it read before'; 0 by the template 'total and deterministic' (their statements: YtdmjokkjhbdnnaaTotals.lean).
  GIVEN WITH THE SEED: the statements are not yours to turn. If you find one false, say at which input.
  Laid BY PROGRAM, IN A SANDBOX (cutbox-rows.mjs): the forced cells as the released guide's own fill.sh prints them over the translation 2b3e84eafaf560cb… (all of the seat's roots in one cut). By AI agents, Wed Nov 11 2026. No macro, syntax, notation, axiom, sorry.
-/
import Derived.Test.YtdmjokkjhbdnnaaChecked
import GoSem.Claim
import GoSem.ClaimJoined
import GoSem.ClaimMapViews
import Derived.JoinedTies
import Derived.KernelRfl
namespace Go.Proofs.Ytdmjokkjhbdnnaa
/- THE CELL 'sum', in the pinned program and in every row, IS THE sha256 OF THE DUMP (.gsa) THAT YtdmjokkjhbdnnaaProg.lean LOADS. Nothing in Lean hashes anything: it is a label: what it is worth is what the hold of that sum in a sandbox is worth. -/
noncomputable def Try.pinned : Pinned := { name := "ytdmjokkjhbdnnaa", sum := "2b3e84eafaf560cb02c76a96f11657564fecea978f8de342f3a6618644d53643", checked := Try.checked }
namespace Rows
def none {H : Type} : Left H := { results := [], args := [] }

/-- 'knelllaw01.WordUnlike': WHATEVER THE INPUT: true; the input reads as it did. -/
def wordUnlikeSpec : ChangeSpec := { name := "wordUnlike", fn := fun _ => fun
  | [d1, d2] => { results := [.lit (.bool true)], args := [d1, d2] }
  | _ => none }
def wordUnlikeRow : OpenClaim := { program := "ytdmjokkjhbdnnaa", sum := "2b3e84eafaf560cb02c76a96f11657564fecea978f8de342f3a6618644d53643", func := "knell/knelllaw01.WordUnlike", spec := "wordUnlike", apart := false }
def WordUnlikeSaid : Prop := wordUnlikeRow.holds Try.pinned (OpenSpec.ofChange wordUnlikeSpec)

/-- ITS FALSE NEIGHBOUR: 'it returns false'. Refute it at one input. -/
def wordUnlikeWrong : ChangeSpec := { name := "wordUnlike", fn := fun _ => fun
  | [d1, d2] => { results := [.lit (.bool false)], args := [d1, d2] }
  | _ => none }
def WordUnlikeWrongFalsely : Prop := wordUnlikeRow.holds Try.pinned (OpenSpec.ofChange wordUnlikeWrong)

/-- 'knelllaw01.WordPacks': WHATEVER THE INPUT: true; the input reads as it did. -/
def wordPacksSpec : ChangeSpec := { name := "wordPacks", fn := fun _ => fun
  | [d1, d2, d3, d4] => { results := [.lit (.bool true)], args := [d1, d2, d3, d4] }
  | _ => none }
def wordPacksRow : OpenClaim := { program := "ytdmjokkjhbdnnaa", sum := "2b3e84eafaf560cb02c76a96f11657564fecea978f8de342f3a6618644d53643", func := "knell/knelllaw01.WordPacks", spec := "wordPacks", apart := false }
def WordPacksSaid : Prop := wordPacksRow.holds Try.pinned (OpenSpec.ofChange wordPacksSpec)

/-- ITS FALSE NEIGHBOUR: 'it returns false'. Refute it at one input. -/
def wordPacksWrong : ChangeSpec := { name := "wordPacks", fn := fun _ => fun
  | [d1, d2, d3, d4] => { results := [.lit (.bool false)], args := [d1, d2, d3, d4] }
  | _ => none }
def WordPacksWrongFalsely : Prop := wordPacksRow.holds Try.pinned (OpenSpec.ofChange wordPacksWrong)

/-- 'knelllaw05.DigitTells': WHATEVER THE INPUT: true; the input reads as it did. -/
def digitTellsSpec : ChangeSpec := { name := "digitTells", fn := fun _ => fun
  | [d1, d2, d3, d4] => { results := [.lit (.bool true)], args := [d1, d2, d3, d4] }
  | _ => none }
def digitTellsRow : OpenClaim := { program := "ytdmjokkjhbdnnaa", sum := "2b3e84eafaf560cb02c76a96f11657564fecea978f8de342f3a6618644d53643", func := "knell/knelllaw05.DigitTells", spec := "digitTells", apart := false }
def DigitTellsSaid : Prop := digitTellsRow.holds Try.pinned (OpenSpec.ofChange digitTellsSpec)

/-- ITS FALSE NEIGHBOUR: 'it returns false'. Refute it at one input. -/
def digitTellsWrong : ChangeSpec := { name := "digitTells", fn := fun _ => fun
  | [d1, d2, d3, d4] => { results := [.lit (.bool false)], args := [d1, d2, d3, d4] }
  | _ => none }
def DigitTellsWrongFalsely : Prop := digitTellsRow.holds Try.pinned (OpenSpec.ofChange digitTellsWrong)

/-- 'knelllaw05.DigitFloors': WHATEVER THE INPUT: true; the input reads as it did. -/
def digitFloorsSpec : ChangeSpec := { name := "digitFloors", fn := fun _ => fun
  | [d1, d2, d3] => { results := [.lit (.bool true)], args := [d1, d2, d3] }
  | _ => none }
def digitFloorsRow : OpenClaim := { program := "ytdmjokkjhbdnnaa", sum := "2b3e84eafaf560cb02c76a96f11657564fecea978f8de342f3a6618644d53643", func := "knell/knelllaw05.DigitFloors", spec := "digitFloors", apart := false }
def DigitFloorsSaid : Prop := digitFloorsRow.holds Try.pinned (OpenSpec.ofChange digitFloorsSpec)

/-- ITS FALSE NEIGHBOUR: 'it returns false'. Refute it at one input. -/
def digitFloorsWrong : ChangeSpec := { name := "digitFloors", fn := fun _ => fun
  | [d1, d2, d3] => { results := [.lit (.bool false)], args := [d1, d2, d3] }
  | _ => none }
def DigitFloorsWrongFalsely : Prop := digitFloorsRow.holds Try.pinned (OpenSpec.ofChange digitFloorsWrong)

/-- 'knelllaw05.DigitOrders': WHATEVER THE INPUT: true; the input reads as it did. -/
def digitOrdersSpec : ChangeSpec := { name := "digitOrders", fn := fun _ => fun
  | [d1, d2, d3] => { results := [.lit (.bool true)], args := [d1, d2, d3] }
  | _ => none }
def digitOrdersRow : OpenClaim := { program := "ytdmjokkjhbdnnaa", sum := "2b3e84eafaf560cb02c76a96f11657564fecea978f8de342f3a6618644d53643", func := "knell/knelllaw05.DigitOrders", spec := "digitOrders", apart := false }
def DigitOrdersSaid : Prop := digitOrdersRow.holds Try.pinned (OpenSpec.ofChange digitOrdersSpec)

/-- ITS FALSE NEIGHBOUR: 'it returns false'. Refute it at one input. -/
def digitOrdersWrong : ChangeSpec := { name := "digitOrders", fn := fun _ => fun
  | [d1, d2, d3] => { results := [.lit (.bool false)], args := [d1, d2, d3] }
  | _ => none }
def DigitOrdersWrongFalsely : Prop := digitOrdersRow.holds Try.pinned (OpenSpec.ofChange digitOrdersWrong)

/-- 'knelllaw01.WordParts': WHATEVER THE INPUT: true; the input reads as it did. -/
def wordPartsSpec : ChangeSpec := { name := "wordParts", fn := fun _ => fun
  | [d1, d2, d3, d4] => { results := [.lit (.bool true)], args := [d1, d2, d3, d4] }
  | _ => none }
def wordPartsRow : OpenClaim := { program := "ytdmjokkjhbdnnaa", sum := "2b3e84eafaf560cb02c76a96f11657564fecea978f8de342f3a6618644d53643", func := "knell/knelllaw01.WordParts", spec := "wordParts", apart := false }
def WordPartsSaid : Prop := wordPartsRow.holds Try.pinned (OpenSpec.ofChange wordPartsSpec)

/-- ITS FALSE NEIGHBOUR: 'it returns false'. Refute it at one input. -/
def wordPartsWrong : ChangeSpec := { name := "wordParts", fn := fun _ => fun
  | [d1, d2, d3, d4] => { results := [.lit (.bool false)], args := [d1, d2, d3, d4] }
  | _ => none }
def WordPartsWrongFalsely : Prop := wordPartsRow.holds Try.pinned (OpenSpec.ofChange wordPartsWrong)

/-- 'knelllaw01.WordKept': WHATEVER THE INPUT: true; the input reads as it did. -/
def wordKeptSpec : ChangeSpec := { name := "wordKept", fn := fun _ => fun
  | [d1, d2, d3, d4, d5] => { results := [.lit (.bool true)], args := [d1, d2, d3, d4, d5] }
  | _ => none }
def wordKeptRow : OpenClaim := { program := "ytdmjokkjhbdnnaa", sum := "2b3e84eafaf560cb02c76a96f11657564fecea978f8de342f3a6618644d53643", func := "knell/knelllaw01.WordKept", spec := "wordKept", apart := false }
def WordKeptSaid : Prop := wordKeptRow.holds Try.pinned (OpenSpec.ofChange wordKeptSpec)

/-- ITS FALSE NEIGHBOUR: 'it returns false'. Refute it at one input. -/
def wordKeptWrong : ChangeSpec := { name := "wordKept", fn := fun _ => fun
  | [d1, d2, d3, d4, d5] => { results := [.lit (.bool false)], args := [d1, d2, d3, d4, d5] }
  | _ => none }
def WordKeptWrongFalsely : Prop := wordKeptRow.holds Try.pinned (OpenSpec.ofChange wordKeptWrong)

/-- 'knelllaw05.DigitPlaces': WHATEVER THE INPUT: true; the input reads as it did. -/
def digitPlacesSpec : ChangeSpec := { name := "digitPlaces", fn := fun _ => fun
  | [d1, d2, d3, d4] => { results := [.lit (.bool true)], args := [d1, d2, d3, d4] }
  | _ => none }
def digitPlacesRow : OpenClaim := { program := "ytdmjokkjhbdnnaa", sum := "2b3e84eafaf560cb02c76a96f11657564fecea978f8de342f3a6618644d53643", func := "knell/knelllaw05.DigitPlaces", spec := "digitPlaces", apart := false }
def DigitPlacesSaid : Prop := digitPlacesRow.holds Try.pinned (OpenSpec.ofChange digitPlacesSpec)

/-- ITS FALSE NEIGHBOUR: 'it returns false'. Refute it at one input. -/
def digitPlacesWrong : ChangeSpec := { name := "digitPlaces", fn := fun _ => fun
  | [d1, d2, d3, d4] => { results := [.lit (.bool false)], args := [d1, d2, d3, d4] }
  | _ => none }
def DigitPlacesWrongFalsely : Prop := digitPlacesRow.holds Try.pinned (OpenSpec.ofChange digitPlacesWrong)

/-- 'knelllaw05.DigitStays': WHATEVER THE INPUT: true; the input reads as it did. -/
def digitStaysSpec : ChangeSpec := { name := "digitStays", fn := fun _ => fun
  | [d1, d2, d3, d4, d5] => { results := [.lit (.bool true)], args := [d1, d2, d3, d4, d5] }
  | _ => none }
def digitStaysRow : OpenClaim := { program := "ytdmjokkjhbdnnaa", sum := "2b3e84eafaf560cb02c76a96f11657564fecea978f8de342f3a6618644d53643", func := "knell/knelllaw05.DigitStays", spec := "digitStays", apart := false }
def DigitStaysSaid : Prop := digitStaysRow.holds Try.pinned (OpenSpec.ofChange digitStaysSpec)

/-- ITS FALSE NEIGHBOUR: 'it returns false'. Refute it at one input. -/
def digitStaysWrong : ChangeSpec := { name := "digitStays", fn := fun _ => fun
  | [d1, d2, d3, d4, d5] => { results := [.lit (.bool false)], args := [d1, d2, d3, d4, d5] }
  | _ => none }
def DigitStaysWrongFalsely : Prop := digitStaysRow.holds Try.pinned (OpenSpec.ofChange digitStaysWrong)

/-- 'knelllaw01.WordSpreads': WHATEVER THE INPUT: true; the input reads as it did. -/
def wordSpreadsSpec : ChangeSpec := { name := "wordSpreads", fn := fun _ => fun
  | [d] => { results := [.lit (.bool true)], args := [d] }
  | _ => none }
def wordSpreadsRow : OpenClaim := { program := "ytdmjokkjhbdnnaa", sum := "2b3e84eafaf560cb02c76a96f11657564fecea978f8de342f3a6618644d53643", func := "knell/knelllaw01.WordSpreads", spec := "wordSpreads", apart := false }
def WordSpreadsSaid : Prop := wordSpreadsRow.holds Try.pinned (OpenSpec.ofChange wordSpreadsSpec)

/-- ITS FALSE NEIGHBOUR: 'it returns false'. Refute it at one input. -/
def wordSpreadsWrong : ChangeSpec := { name := "wordSpreads", fn := fun _ => fun
  | [d] => { results := [.lit (.bool false)], args := [d] }
  | _ => none }
def WordSpreadsWrongFalsely : Prop := wordSpreadsRow.holds Try.pinned (OpenSpec.ofChange wordSpreadsWrong)

/- THE SECOND FORM. 'bulk': how many values and letters a reading holds, each counted each time it is reached (what is shared counts as often as it is met; a slice's spare places count too). A statement '..UptoSaid' is the law's where the arguments, and the package variables that the reading takes, are together of bulk at most 1048576: NARROWER than '..Said'. Prove '..Said' where nothing that the law and all that it calls make is longer than what came in: it says more and counts as full. Else prove '..UptoSaid'. A law counts once. -/
mutual
def uptoBulk {H : Type} : DataW H → Nat
  | .lit (.string bytes) => bytes.length + 1
  | .lit _ => 1
  | .nil => 1
  | .ptr d => uptoBulk d + 1
  | .slice elems spare => uptoBulkAll elems + uptoBulkAll spare + 1
  | .agg parts => uptoBulkAll parts + 1
  | .iface _ d => uptoBulk d + 1
  | .map entries => uptoBulkEntries entries + 1
  | .held _ => 1
def uptoBulkAll {H : Type} : List (DataW H) → Nat
  | [] => 0
  | d :: r => uptoBulk d + uptoBulkAll r
def uptoBulkEntries {H : Type} : List (Lit × DataW H) → Nat
  | [] => 0
  | x :: r => uptoBulkEntry x + uptoBulkEntries r
def uptoBulkEntry {H : Type} : Lit × DataW H → Nat
  | (.string bytes, d) => bytes.length + uptoBulk d + 1
  | (_, d) => uptoBulk d + 1
 end
def uptoSmall : (H : Type) → List (DataW H) → Bool := fun _ ds => decide (uptoBulkAll ds ≤ 1048576)
def OpenSpec.upto (s : _root_.Go.ChangeSpec) : _root_.Go.OpenSpec := { _root_.Go.OpenSpec.ofChange s with cond := some uptoSmall }

/-- 'knelllaw01.WordUnlike', WHERE WHAT IT READS IS OF BULK AT MOST 1048576: true; the input reads as it did. -/
def wordUnlikeUptoRow : OpenClaim := { program := "ytdmjokkjhbdnnaa", sum := "2b3e84eafaf560cb02c76a96f11657564fecea978f8de342f3a6618644d53643", func := "knell/knelllaw01.WordUnlike", spec := "wordUnlike", apart := false, narrowed := true }
def WordUnlikeUptoSaid : Prop := wordUnlikeUptoRow.holds Try.pinned (OpenSpec.upto wordUnlikeSpec)

/-- 'knelllaw01.WordPacks', WHERE WHAT IT READS IS OF BULK AT MOST 1048576: true; the input reads as it did. -/
def wordPacksUptoRow : OpenClaim := { program := "ytdmjokkjhbdnnaa", sum := "2b3e84eafaf560cb02c76a96f11657564fecea978f8de342f3a6618644d53643", func := "knell/knelllaw01.WordPacks", spec := "wordPacks", apart := false, narrowed := true }
def WordPacksUptoSaid : Prop := wordPacksUptoRow.holds Try.pinned (OpenSpec.upto wordPacksSpec)

/-- 'knelllaw05.DigitTells', WHERE WHAT IT READS IS OF BULK AT MOST 1048576: true; the input reads as it did. -/
def digitTellsUptoRow : OpenClaim := { program := "ytdmjokkjhbdnnaa", sum := "2b3e84eafaf560cb02c76a96f11657564fecea978f8de342f3a6618644d53643", func := "knell/knelllaw05.DigitTells", spec := "digitTells", apart := false, narrowed := true }
def DigitTellsUptoSaid : Prop := digitTellsUptoRow.holds Try.pinned (OpenSpec.upto digitTellsSpec)

/-- 'knelllaw05.DigitFloors', WHERE WHAT IT READS IS OF BULK AT MOST 1048576: true; the input reads as it did. -/
def digitFloorsUptoRow : OpenClaim := { program := "ytdmjokkjhbdnnaa", sum := "2b3e84eafaf560cb02c76a96f11657564fecea978f8de342f3a6618644d53643", func := "knell/knelllaw05.DigitFloors", spec := "digitFloors", apart := false, narrowed := true }
def DigitFloorsUptoSaid : Prop := digitFloorsUptoRow.holds Try.pinned (OpenSpec.upto digitFloorsSpec)

/-- 'knelllaw05.DigitOrders', WHERE WHAT IT READS IS OF BULK AT MOST 1048576: true; the input reads as it did. -/
def digitOrdersUptoRow : OpenClaim := { program := "ytdmjokkjhbdnnaa", sum := "2b3e84eafaf560cb02c76a96f11657564fecea978f8de342f3a6618644d53643", func := "knell/knelllaw05.DigitOrders", spec := "digitOrders", apart := false, narrowed := true }
def DigitOrdersUptoSaid : Prop := digitOrdersUptoRow.holds Try.pinned (OpenSpec.upto digitOrdersSpec)

/-- 'knelllaw01.WordParts', WHERE WHAT IT READS IS OF BULK AT MOST 1048576: true; the input reads as it did. -/
def wordPartsUptoRow : OpenClaim := { program := "ytdmjokkjhbdnnaa", sum := "2b3e84eafaf560cb02c76a96f11657564fecea978f8de342f3a6618644d53643", func := "knell/knelllaw01.WordParts", spec := "wordParts", apart := false, narrowed := true }
def WordPartsUptoSaid : Prop := wordPartsUptoRow.holds Try.pinned (OpenSpec.upto wordPartsSpec)

/-- 'knelllaw01.WordKept', WHERE WHAT IT READS IS OF BULK AT MOST 1048576: true; the input reads as it did. -/
def wordKeptUptoRow : OpenClaim := { program := "ytdmjokkjhbdnnaa", sum := "2b3e84eafaf560cb02c76a96f11657564fecea978f8de342f3a6618644d53643", func := "knell/knelllaw01.WordKept", spec := "wordKept", apart := false, narrowed := true }
def WordKeptUptoSaid : Prop := wordKeptUptoRow.holds Try.pinned (OpenSpec.upto wordKeptSpec)

/-- 'knelllaw05.DigitPlaces', WHERE WHAT IT READS IS OF BULK AT MOST 1048576: true; the input reads as it did. -/
def digitPlacesUptoRow : OpenClaim := { program := "ytdmjokkjhbdnnaa", sum := "2b3e84eafaf560cb02c76a96f11657564fecea978f8de342f3a6618644d53643", func := "knell/knelllaw05.DigitPlaces", spec := "digitPlaces", apart := false, narrowed := true }
def DigitPlacesUptoSaid : Prop := digitPlacesUptoRow.holds Try.pinned (OpenSpec.upto digitPlacesSpec)

/-- 'knelllaw05.DigitStays', WHERE WHAT IT READS IS OF BULK AT MOST 1048576: true; the input reads as it did. -/
def digitStaysUptoRow : OpenClaim := { program := "ytdmjokkjhbdnnaa", sum := "2b3e84eafaf560cb02c76a96f11657564fecea978f8de342f3a6618644d53643", func := "knell/knelllaw05.DigitStays", spec := "digitStays", apart := false, narrowed := true }
def DigitStaysUptoSaid : Prop := digitStaysUptoRow.holds Try.pinned (OpenSpec.upto digitStaysSpec)

/-- 'knelllaw01.WordSpreads', WHERE WHAT IT READS IS OF BULK AT MOST 1048576: true; the input reads as it did. -/
def wordSpreadsUptoRow : OpenClaim := { program := "ytdmjokkjhbdnnaa", sum := "2b3e84eafaf560cb02c76a96f11657564fecea978f8de342f3a6618644d53643", func := "knell/knelllaw01.WordSpreads", spec := "wordSpreads", apart := false, narrowed := true }
def WordSpreadsUptoSaid : Prop := wordSpreadsUptoRow.holds Try.pinned (OpenSpec.upto wordSpreadsSpec)

end Rows
end Go.Proofs.Ytdmjokkjhbdnnaa
