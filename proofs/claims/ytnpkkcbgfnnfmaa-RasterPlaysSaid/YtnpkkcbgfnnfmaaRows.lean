/-
  No cell of these rows narrows 'for every input' (looked for: loops, veiled, ifaces, maps, wideKeys, modest, calm, conditions, laid).
  DERIVED. THE GIVEN ROWS OF THIS SEAT. 17 by the template 'for every input the law returns true; each argument reads behind the call as it read before'; 0 by the template 'total and deterministic' (their statements: YtnpkkcbgfnnfmaaTotals.lean).
  GIVEN WITH THE SEED: the statements are not yours to turn. If you find one false, say at which input.
  Laid BY PROGRAM, IN A SANDBOX (cutbox-rows.mjs): the forced cells as the released guide's own fill.sh prints them over the translation cd78b180f75e24ac… (all of the seat's roots in one cut). By AI agents, Wed Nov 11 2026. No macro, syntax, notation, axiom, sorry.
-/
import Derived.Test.YtnpkkcbgfnnfmaaChecked
import GoSem.Claim
import GoSem.ClaimJoined
import GoSem.ClaimMapViews
import Derived.JoinedTies
import Derived.KernelRfl
namespace Go.Proofs.Ytnpkkcbgfnnfmaa
/- THE CELL 'sum', in the pinned program and in every row, IS THE sha256 OF THE DUMP (.gsa) THAT YtnpkkcbgfnnfmaaProg.lean LOADS. Nothing in Lean hashes anything: it is a label: what it is worth is what the hold of that sum in a sandbox is worth. -/
noncomputable def Try.pinned : Pinned := { name := "ytnpkkcbgfnnfmaa", sum := "cd78b180f75e24ac50bc808c3659742c7af2cf45ad0e9d204a89ebc4a0e8d46f", checked := Try.checked }
namespace Rows
def none {H : Type} : Left H := { results := [], args := [] }

/-- 'smaltolaw09.RasterCodes': WHATEVER THE INPUT: true; the input reads as it did. -/
def rasterCodesSpec : ChangeSpec := { name := "rasterCodes", fn := fun _ => fun
  | [d1, d2, d3, d4] => { results := [.lit (.bool true)], args := [d1, d2, d3, d4] }
  | _ => none }
def rasterCodesRow : OpenClaim := { program := "ytnpkkcbgfnnfmaa", sum := "cd78b180f75e24ac50bc808c3659742c7af2cf45ad0e9d204a89ebc4a0e8d46f", func := "smalto/smaltolaw09.RasterCodes", spec := "rasterCodes", apart := false }
def RasterCodesSaid : Prop := rasterCodesRow.holds Try.pinned (OpenSpec.ofChange rasterCodesSpec)

/-- ITS FALSE NEIGHBOUR: 'it returns false'. Refute it at one input. -/
def rasterCodesWrong : ChangeSpec := { name := "rasterCodes", fn := fun _ => fun
  | [d1, d2, d3, d4] => { results := [.lit (.bool false)], args := [d1, d2, d3, d4] }
  | _ => none }
def RasterCodesWrongFalsely : Prop := rasterCodesRow.holds Try.pinned (OpenSpec.ofChange rasterCodesWrong)

/-- 'smaltolaw18.QueueOrder': WHATEVER THE INPUT: true; the input reads as it did. -/
def queueOrderSpec : ChangeSpec := { name := "queueOrder", fn := fun _ => fun
  | [d1, d2] => { results := [.lit (.bool true)], args := [d1, d2] }
  | _ => none }
def queueOrderRow : OpenClaim := { program := "ytnpkkcbgfnnfmaa", sum := "cd78b180f75e24ac50bc808c3659742c7af2cf45ad0e9d204a89ebc4a0e8d46f", func := "smalto/smaltolaw18.QueueOrder", spec := "queueOrder", apart := false }
def QueueOrderSaid : Prop := queueOrderRow.holds Try.pinned (OpenSpec.ofChange queueOrderSpec)

/-- ITS FALSE NEIGHBOUR: 'it returns false'. Refute it at one input. -/
def queueOrderWrong : ChangeSpec := { name := "queueOrder", fn := fun _ => fun
  | [d1, d2] => { results := [.lit (.bool false)], args := [d1, d2] }
  | _ => none }
def QueueOrderWrongFalsely : Prop := queueOrderRow.holds Try.pinned (OpenSpec.ofChange queueOrderWrong)

/-- 'smaltolaw18.QueueFull': WHATEVER THE INPUT: true; the input reads as it did. -/
def queueFullSpec : ChangeSpec := { name := "queueFull", fn := fun _ => fun
  | [d1, d2] => { results := [.lit (.bool true)], args := [d1, d2] }
  | _ => none }
def queueFullRow : OpenClaim := { program := "ytnpkkcbgfnnfmaa", sum := "cd78b180f75e24ac50bc808c3659742c7af2cf45ad0e9d204a89ebc4a0e8d46f", func := "smalto/smaltolaw18.QueueFull", spec := "queueFull", apart := false }
def QueueFullSaid : Prop := queueFullRow.holds Try.pinned (OpenSpec.ofChange queueFullSpec)

/-- ITS FALSE NEIGHBOUR: 'it returns false'. Refute it at one input. -/
def queueFullWrong : ChangeSpec := { name := "queueFull", fn := fun _ => fun
  | [d1, d2] => { results := [.lit (.bool false)], args := [d1, d2] }
  | _ => none }
def QueueFullWrongFalsely : Prop := queueFullRow.holds Try.pinned (OpenSpec.ofChange queueFullWrong)

/-- 'smaltolaw18.QueueClosed': WHATEVER THE INPUT: true; the input reads as it did. -/
def queueClosedSpec : ChangeSpec := { name := "queueClosed", fn := fun _ => fun
  | [d] => { results := [.lit (.bool true)], args := [d] }
  | _ => none }
def queueClosedRow : OpenClaim := { program := "ytnpkkcbgfnnfmaa", sum := "cd78b180f75e24ac50bc808c3659742c7af2cf45ad0e9d204a89ebc4a0e8d46f", func := "smalto/smaltolaw18.QueueClosed", spec := "queueClosed", apart := false }
def QueueClosedSaid : Prop := queueClosedRow.holds Try.pinned (OpenSpec.ofChange queueClosedSpec)

/-- ITS FALSE NEIGHBOUR: 'it returns false'. Refute it at one input. -/
def queueClosedWrong : ChangeSpec := { name := "queueClosed", fn := fun _ => fun
  | [d] => { results := [.lit (.bool false)], args := [d] }
  | _ => none }
def QueueClosedWrongFalsely : Prop := queueClosedRow.holds Try.pinned (OpenSpec.ofChange queueClosedWrong)

/-- 'smaltolaw18.QueuePlays': WHATEVER THE INPUT: true; the input reads as it did. -/
def queuePlaysSpec : ChangeSpec := { name := "queuePlays", fn := fun _ => fun
  | [d1, d2, d3] => { results := [.lit (.bool true)], args := [d1, d2, d3] }
  | _ => none }
def queuePlaysRow : OpenClaim := { program := "ytnpkkcbgfnnfmaa", sum := "cd78b180f75e24ac50bc808c3659742c7af2cf45ad0e9d204a89ebc4a0e8d46f", func := "smalto/smaltolaw18.QueuePlays", spec := "queuePlays", apart := false }
def QueuePlaysSaid : Prop := queuePlaysRow.holds Try.pinned (OpenSpec.ofChange queuePlaysSpec)

/-- ITS FALSE NEIGHBOUR: 'it returns false'. Refute it at one input. -/
def queuePlaysWrong : ChangeSpec := { name := "queuePlays", fn := fun _ => fun
  | [d1, d2, d3] => { results := [.lit (.bool false)], args := [d1, d2, d3] }
  | _ => none }
def QueuePlaysWrongFalsely : Prop := queuePlaysRow.holds Try.pinned (OpenSpec.ofChange queuePlaysWrong)

/-- 'smaltolaw09.RasterOf': WHATEVER THE INPUT: true; the input reads as it did. -/
def rasterOfSpec : ChangeSpec := { name := "rasterOf", fn := fun _ => fun
  | [d1, d2, d3, d4, d5] => { results := [.lit (.bool true)], args := [d1, d2, d3, d4, d5] }
  | _ => none }
def rasterOfRow : OpenClaim := { program := "ytnpkkcbgfnnfmaa", sum := "cd78b180f75e24ac50bc808c3659742c7af2cf45ad0e9d204a89ebc4a0e8d46f", func := "smalto/smaltolaw09.RasterOf", spec := "rasterOf", apart := false }
def RasterOfSaid : Prop := rasterOfRow.holds Try.pinned (OpenSpec.ofChange rasterOfSpec)

/-- ITS FALSE NEIGHBOUR: 'it returns false'. Refute it at one input. -/
def rasterOfWrong : ChangeSpec := { name := "rasterOf", fn := fun _ => fun
  | [d1, d2, d3, d4, d5] => { results := [.lit (.bool false)], args := [d1, d2, d3, d4, d5] }
  | _ => none }
def RasterOfWrongFalsely : Prop := rasterOfRow.holds Try.pinned (OpenSpec.ofChange rasterOfWrong)

/-- 'smaltolaw09.RasterRows': WHATEVER THE INPUT: true; the input reads as it did. -/
def rasterRowsSpec : ChangeSpec := { name := "rasterRows", fn := fun _ => fun
  | [d1, d2, d3, d4, d5] => { results := [.lit (.bool true)], args := [d1, d2, d3, d4, d5] }
  | _ => none }
def rasterRowsRow : OpenClaim := { program := "ytnpkkcbgfnnfmaa", sum := "cd78b180f75e24ac50bc808c3659742c7af2cf45ad0e9d204a89ebc4a0e8d46f", func := "smalto/smaltolaw09.RasterRows", spec := "rasterRows", apart := false }
def RasterRowsSaid : Prop := rasterRowsRow.holds Try.pinned (OpenSpec.ofChange rasterRowsSpec)

/-- ITS FALSE NEIGHBOUR: 'it returns false'. Refute it at one input. -/
def rasterRowsWrong : ChangeSpec := { name := "rasterRows", fn := fun _ => fun
  | [d1, d2, d3, d4, d5] => { results := [.lit (.bool false)], args := [d1, d2, d3, d4, d5] }
  | _ => none }
def RasterRowsWrongFalsely : Prop := rasterRowsRow.holds Try.pinned (OpenSpec.ofChange rasterRowsWrong)

/-- 'smaltolaw09.RasterNil': WHATEVER THE INPUT: true; the input reads as it did. -/
def rasterNilSpec : ChangeSpec := { name := "rasterNil", fn := fun _ => fun
  | [d1, d2, d3, d4, d5] => { results := [.lit (.bool true)], args := [d1, d2, d3, d4, d5] }
  | _ => none }
def rasterNilRow : OpenClaim := { program := "ytnpkkcbgfnnfmaa", sum := "cd78b180f75e24ac50bc808c3659742c7af2cf45ad0e9d204a89ebc4a0e8d46f", func := "smalto/smaltolaw09.RasterNil", spec := "rasterNil", apart := false }
def RasterNilSaid : Prop := rasterNilRow.holds Try.pinned (OpenSpec.ofChange rasterNilSpec)

/-- ITS FALSE NEIGHBOUR: 'it returns false'. Refute it at one input. -/
def rasterNilWrong : ChangeSpec := { name := "rasterNil", fn := fun _ => fun
  | [d1, d2, d3, d4, d5] => { results := [.lit (.bool false)], args := [d1, d2, d3, d4, d5] }
  | _ => none }
def RasterNilWrongFalsely : Prop := rasterNilRow.holds Try.pinned (OpenSpec.ofChange rasterNilWrong)

/-- 'smaltolaw10.HeaderParses': WHATEVER THE INPUT: true; the input reads as it did. -/
def headerParsesSpec : ChangeSpec := { name := "headerParses", fn := fun _ => fun
  | [d] => { results := [.lit (.bool true)], args := [d] }
  | _ => none }
def headerParsesRow : OpenClaim := { program := "ytnpkkcbgfnnfmaa", sum := "cd78b180f75e24ac50bc808c3659742c7af2cf45ad0e9d204a89ebc4a0e8d46f", func := "smalto/smaltolaw10.HeaderParses", spec := "headerParses", apart := false }
def HeaderParsesSaid : Prop := headerParsesRow.holds Try.pinned (OpenSpec.ofChange headerParsesSpec)

/-- ITS FALSE NEIGHBOUR: 'it returns false'. Refute it at one input. -/
def headerParsesWrong : ChangeSpec := { name := "headerParses", fn := fun _ => fun
  | [d] => { results := [.lit (.bool false)], args := [d] }
  | _ => none }
def HeaderParsesWrongFalsely : Prop := headerParsesRow.holds Try.pinned (OpenSpec.ofChange headerParsesWrong)

/-- 'smaltolaw10.HeaderRemarks': WHATEVER THE INPUT: true; the input reads as it did. -/
def headerRemarksSpec : ChangeSpec := { name := "headerRemarks", fn := fun _ => fun
  | [d1, d2, d3, d4, d5, d6] => { results := [.lit (.bool true)], args := [d1, d2, d3, d4, d5, d6] }
  | _ => none }
def headerRemarksRow : OpenClaim := { program := "ytnpkkcbgfnnfmaa", sum := "cd78b180f75e24ac50bc808c3659742c7af2cf45ad0e9d204a89ebc4a0e8d46f", func := "smalto/smaltolaw10.HeaderRemarks", spec := "headerRemarks", unfollowed := true, recurses := true, apart := false }
def HeaderRemarksSaid : Prop := headerRemarksRow.holds Try.pinned (OpenSpec.ofChange headerRemarksSpec)

/-- ITS FALSE NEIGHBOUR: 'it returns false'. Refute it at one input. -/
def headerRemarksWrong : ChangeSpec := { name := "headerRemarks", fn := fun _ => fun
  | [d1, d2, d3, d4, d5, d6] => { results := [.lit (.bool false)], args := [d1, d2, d3, d4, d5, d6] }
  | _ => none }
def HeaderRemarksWrongFalsely : Prop := headerRemarksRow.holds Try.pinned (OpenSpec.ofChange headerRemarksWrong)

/-- 'smaltolaw10.HeaderBlanks': WHATEVER THE INPUT: true; the input reads as it did. -/
def headerBlanksSpec : ChangeSpec := { name := "headerBlanks", fn := fun _ => fun
  | [d] => { results := [.lit (.bool true)], args := [d] }
  | _ => none }
def headerBlanksRow : OpenClaim := { program := "ytnpkkcbgfnnfmaa", sum := "cd78b180f75e24ac50bc808c3659742c7af2cf45ad0e9d204a89ebc4a0e8d46f", func := "smalto/smaltolaw10.HeaderBlanks", spec := "headerBlanks", apart := false }
def HeaderBlanksSaid : Prop := headerBlanksRow.holds Try.pinned (OpenSpec.ofChange headerBlanksSpec)

/-- ITS FALSE NEIGHBOUR: 'it returns false'. Refute it at one input. -/
def headerBlanksWrong : ChangeSpec := { name := "headerBlanks", fn := fun _ => fun
  | [d] => { results := [.lit (.bool false)], args := [d] }
  | _ => none }
def HeaderBlanksWrongFalsely : Prop := headerBlanksRow.holds Try.pinned (OpenSpec.ofChange headerBlanksWrong)

/-- 'smaltolaw27.DiffOf': WHATEVER THE INPUT: true; the input reads as it did. -/
def diffOfSpec : ChangeSpec := { name := "diffOf", fn := fun _ => fun
  | [d1, d2, d3] => { results := [.lit (.bool true)], args := [d1, d2, d3] }
  | _ => none }
def diffOfRow : OpenClaim := { program := "ytnpkkcbgfnnfmaa", sum := "cd78b180f75e24ac50bc808c3659742c7af2cf45ad0e9d204a89ebc4a0e8d46f", func := "smalto/smaltolaw27.DiffOf", spec := "diffOf", apart := false }
def DiffOfSaid : Prop := diffOfRow.holds Try.pinned (OpenSpec.ofChange diffOfSpec)

/-- ITS FALSE NEIGHBOUR: 'it returns false'. Refute it at one input. -/
def diffOfWrong : ChangeSpec := { name := "diffOf", fn := fun _ => fun
  | [d1, d2, d3] => { results := [.lit (.bool false)], args := [d1, d2, d3] }
  | _ => none }
def DiffOfWrongFalsely : Prop := diffOfRow.holds Try.pinned (OpenSpec.ofChange diffOfWrong)

/-- 'smaltolaw09.RasterPlays': WHATEVER THE INPUT: true; the input reads as it did. -/
def rasterPlaysSpec : ChangeSpec := { name := "rasterPlays", fn := fun _ => fun
  | [d1, d2, d3, d4, d5, d6] => { results := [.lit (.bool true)], args := [d1, d2, d3, d4, d5, d6] }
  | _ => none }
def rasterPlaysRow : OpenClaim := { program := "ytnpkkcbgfnnfmaa", sum := "cd78b180f75e24ac50bc808c3659742c7af2cf45ad0e9d204a89ebc4a0e8d46f", func := "smalto/smaltolaw09.RasterPlays", spec := "rasterPlays", apart := false }
def RasterPlaysSaid : Prop := rasterPlaysRow.holds Try.pinned (OpenSpec.ofChange rasterPlaysSpec)

/-- ITS FALSE NEIGHBOUR: 'it returns false'. Refute it at one input. -/
def rasterPlaysWrong : ChangeSpec := { name := "rasterPlays", fn := fun _ => fun
  | [d1, d2, d3, d4, d5, d6] => { results := [.lit (.bool false)], args := [d1, d2, d3, d4, d5, d6] }
  | _ => none }
def RasterPlaysWrongFalsely : Prop := rasterPlaysRow.holds Try.pinned (OpenSpec.ofChange rasterPlaysWrong)

/-- 'smaltolaw27.DiffSet': WHATEVER THE INPUT: true; the input reads as it did. -/
def diffSetSpec : ChangeSpec := { name := "diffSet", fn := fun _ => fun
  | [d1, d2, d3, d4, d5] => { results := [.lit (.bool true)], args := [d1, d2, d3, d4, d5] }
  | _ => none }
def diffSetRow : OpenClaim := { program := "ytnpkkcbgfnnfmaa", sum := "cd78b180f75e24ac50bc808c3659742c7af2cf45ad0e9d204a89ebc4a0e8d46f", func := "smalto/smaltolaw27.DiffSet", spec := "diffSet", apart := false }
def DiffSetSaid : Prop := diffSetRow.holds Try.pinned (OpenSpec.ofChange diffSetSpec)

/-- ITS FALSE NEIGHBOUR: 'it returns false'. Refute it at one input. -/
def diffSetWrong : ChangeSpec := { name := "diffSet", fn := fun _ => fun
  | [d1, d2, d3, d4, d5] => { results := [.lit (.bool false)], args := [d1, d2, d3, d4, d5] }
  | _ => none }
def DiffSetWrongFalsely : Prop := diffSetRow.holds Try.pinned (OpenSpec.ofChange diffSetWrong)

/-- 'smaltolaw27.DiffBounds': WHATEVER THE INPUT: true; the input reads as it did. -/
def diffBoundsSpec : ChangeSpec := { name := "diffBounds", fn := fun _ => fun
  | [d1, d2] => { results := [.lit (.bool true)], args := [d1, d2] }
  | _ => none }
def diffBoundsRow : OpenClaim := { program := "ytnpkkcbgfnnfmaa", sum := "cd78b180f75e24ac50bc808c3659742c7af2cf45ad0e9d204a89ebc4a0e8d46f", func := "smalto/smaltolaw27.DiffBounds", spec := "diffBounds", apart := false }
def DiffBoundsSaid : Prop := diffBoundsRow.holds Try.pinned (OpenSpec.ofChange diffBoundsSpec)

/-- ITS FALSE NEIGHBOUR: 'it returns false'. Refute it at one input. -/
def diffBoundsWrong : ChangeSpec := { name := "diffBounds", fn := fun _ => fun
  | [d1, d2] => { results := [.lit (.bool false)], args := [d1, d2] }
  | _ => none }
def DiffBoundsWrongFalsely : Prop := diffBoundsRow.holds Try.pinned (OpenSpec.ofChange diffBoundsWrong)

/-- 'smaltolaw27.DiffHistogram': WHATEVER THE INPUT: true; the input reads as it did. -/
def diffHistogramSpec : ChangeSpec := { name := "diffHistogram", fn := fun _ => fun
  | [d1, d2, d3] => { results := [.lit (.bool true)], args := [d1, d2, d3] }
  | _ => none }
def diffHistogramRow : OpenClaim := { program := "ytnpkkcbgfnnfmaa", sum := "cd78b180f75e24ac50bc808c3659742c7af2cf45ad0e9d204a89ebc4a0e8d46f", func := "smalto/smaltolaw27.DiffHistogram", spec := "diffHistogram", apart := false }
def DiffHistogramSaid : Prop := diffHistogramRow.holds Try.pinned (OpenSpec.ofChange diffHistogramSpec)

/-- ITS FALSE NEIGHBOUR: 'it returns false'. Refute it at one input. -/
def diffHistogramWrong : ChangeSpec := { name := "diffHistogram", fn := fun _ => fun
  | [d1, d2, d3] => { results := [.lit (.bool false)], args := [d1, d2, d3] }
  | _ => none }
def DiffHistogramWrongFalsely : Prop := diffHistogramRow.holds Try.pinned (OpenSpec.ofChange diffHistogramWrong)

/-- 'smaltolaw27.DiffRange': WHATEVER THE INPUT: true; the input reads as it did. -/
def diffRangeSpec : ChangeSpec := { name := "diffRange", fn := fun _ => fun
  | [d1, d2] => { results := [.lit (.bool true)], args := [d1, d2] }
  | _ => none }
def diffRangeRow : OpenClaim := { program := "ytnpkkcbgfnnfmaa", sum := "cd78b180f75e24ac50bc808c3659742c7af2cf45ad0e9d204a89ebc4a0e8d46f", func := "smalto/smaltolaw27.DiffRange", spec := "diffRange", apart := false }
def DiffRangeSaid : Prop := diffRangeRow.holds Try.pinned (OpenSpec.ofChange diffRangeSpec)

/-- ITS FALSE NEIGHBOUR: 'it returns false'. Refute it at one input. -/
def diffRangeWrong : ChangeSpec := { name := "diffRange", fn := fun _ => fun
  | [d1, d2] => { results := [.lit (.bool false)], args := [d1, d2] }
  | _ => none }
def DiffRangeWrongFalsely : Prop := diffRangeRow.holds Try.pinned (OpenSpec.ofChange diffRangeWrong)

/- THE SECOND FORM. 'bulk': how many values and letters a reading holds, each counted each time it is reached (what is shared counts as often as it is met; a slice's spare places count too). A statement '..UptoSaid' is the law's where the arguments, and the package variables that the reading takes, are together of bulk at most 1048576: NARROWER than '..Said'. Prove '..Said' where nothing that the law and all that it calls make is longer than what came in: it says more and counts as full. Else prove '..UptoSaid'. A law counts once. -/
mutual
def uptoBulk {H : Type} : DataW H → Nat
  | .lit (.string bytes) => bytes.length + 1
  | .lit _ => 1
  | .nil => 1
  | .ptr d => uptoBulk d + 1
  | .slice elems spare => uptoBulkAll elems + uptoBulkAll spare + 1
  | .agg parts => uptoBulkAll parts + 1
  | .iface _ d => uptoBulk d + 1
  | .map entries => uptoBulkEntries entries + 1
  | .held _ => 1
def uptoBulkAll {H : Type} : List (DataW H) → Nat
  | [] => 0
  | d :: r => uptoBulk d + uptoBulkAll r
def uptoBulkEntries {H : Type} : List (Lit × DataW H) → Nat
  | [] => 0
  | x :: r => uptoBulkEntry x + uptoBulkEntries r
def uptoBulkEntry {H : Type} : Lit × DataW H → Nat
  | (.string bytes, d) => bytes.length + uptoBulk d + 1
  | (_, d) => uptoBulk d + 1
 end
def uptoSmall : (H : Type) → List (DataW H) → Bool := fun _ ds => decide (uptoBulkAll ds ≤ 1048576)
def OpenSpec.upto (s : _root_.Go.ChangeSpec) : _root_.Go.OpenSpec := { _root_.Go.OpenSpec.ofChange s with cond := some uptoSmall }

/-- 'smaltolaw09.RasterCodes', WHERE WHAT IT READS IS OF BULK AT MOST 1048576: true; the input reads as it did. -/
def rasterCodesUptoRow : OpenClaim := { program := "ytnpkkcbgfnnfmaa", sum := "cd78b180f75e24ac50bc808c3659742c7af2cf45ad0e9d204a89ebc4a0e8d46f", func := "smalto/smaltolaw09.RasterCodes", spec := "rasterCodes", apart := false, narrowed := true }
def RasterCodesUptoSaid : Prop := rasterCodesUptoRow.holds Try.pinned (OpenSpec.upto rasterCodesSpec)

/-- 'smaltolaw18.QueueOrder', WHERE WHAT IT READS IS OF BULK AT MOST 1048576: true; the input reads as it did. -/
def queueOrderUptoRow : OpenClaim := { program := "ytnpkkcbgfnnfmaa", sum := "cd78b180f75e24ac50bc808c3659742c7af2cf45ad0e9d204a89ebc4a0e8d46f", func := "smalto/smaltolaw18.QueueOrder", spec := "queueOrder", apart := false, narrowed := true }
def QueueOrderUptoSaid : Prop := queueOrderUptoRow.holds Try.pinned (OpenSpec.upto queueOrderSpec)

/-- 'smaltolaw18.QueueFull', WHERE WHAT IT READS IS OF BULK AT MOST 1048576: true; the input reads as it did. -/
def queueFullUptoRow : OpenClaim := { program := "ytnpkkcbgfnnfmaa", sum := "cd78b180f75e24ac50bc808c3659742c7af2cf45ad0e9d204a89ebc4a0e8d46f", func := "smalto/smaltolaw18.QueueFull", spec := "queueFull", apart := false, narrowed := true }
def QueueFullUptoSaid : Prop := queueFullUptoRow.holds Try.pinned (OpenSpec.upto queueFullSpec)

/-- 'smaltolaw18.QueueClosed', WHERE WHAT IT READS IS OF BULK AT MOST 1048576: true; the input reads as it did. -/
def queueClosedUptoRow : OpenClaim := { program := "ytnpkkcbgfnnfmaa", sum := "cd78b180f75e24ac50bc808c3659742c7af2cf45ad0e9d204a89ebc4a0e8d46f", func := "smalto/smaltolaw18.QueueClosed", spec := "queueClosed", apart := false, narrowed := true }
def QueueClosedUptoSaid : Prop := queueClosedUptoRow.holds Try.pinned (OpenSpec.upto queueClosedSpec)

/-- 'smaltolaw18.QueuePlays', WHERE WHAT IT READS IS OF BULK AT MOST 1048576: true; the input reads as it did. -/
def queuePlaysUptoRow : OpenClaim := { program := "ytnpkkcbgfnnfmaa", sum := "cd78b180f75e24ac50bc808c3659742c7af2cf45ad0e9d204a89ebc4a0e8d46f", func := "smalto/smaltolaw18.QueuePlays", spec := "queuePlays", apart := false, narrowed := true }
def QueuePlaysUptoSaid : Prop := queuePlaysUptoRow.holds Try.pinned (OpenSpec.upto queuePlaysSpec)

/-- 'smaltolaw09.RasterOf', WHERE WHAT IT READS IS OF BULK AT MOST 1048576: true; the input reads as it did. -/
def rasterOfUptoRow : OpenClaim := { program := "ytnpkkcbgfnnfmaa", sum := "cd78b180f75e24ac50bc808c3659742c7af2cf45ad0e9d204a89ebc4a0e8d46f", func := "smalto/smaltolaw09.RasterOf", spec := "rasterOf", apart := false, narrowed := true }
def RasterOfUptoSaid : Prop := rasterOfUptoRow.holds Try.pinned (OpenSpec.upto rasterOfSpec)

/-- 'smaltolaw09.RasterRows', WHERE WHAT IT READS IS OF BULK AT MOST 1048576: true; the input reads as it did. -/
def rasterRowsUptoRow : OpenClaim := { program := "ytnpkkcbgfnnfmaa", sum := "cd78b180f75e24ac50bc808c3659742c7af2cf45ad0e9d204a89ebc4a0e8d46f", func := "smalto/smaltolaw09.RasterRows", spec := "rasterRows", apart := false, narrowed := true }
def RasterRowsUptoSaid : Prop := rasterRowsUptoRow.holds Try.pinned (OpenSpec.upto rasterRowsSpec)

/-- 'smaltolaw09.RasterNil', WHERE WHAT IT READS IS OF BULK AT MOST 1048576: true; the input reads as it did. -/
def rasterNilUptoRow : OpenClaim := { program := "ytnpkkcbgfnnfmaa", sum := "cd78b180f75e24ac50bc808c3659742c7af2cf45ad0e9d204a89ebc4a0e8d46f", func := "smalto/smaltolaw09.RasterNil", spec := "rasterNil", apart := false, narrowed := true }
def RasterNilUptoSaid : Prop := rasterNilUptoRow.holds Try.pinned (OpenSpec.upto rasterNilSpec)

/-- 'smaltolaw10.HeaderParses', WHERE WHAT IT READS IS OF BULK AT MOST 1048576: true; the input reads as it did. -/
def headerParsesUptoRow : OpenClaim := { program := "ytnpkkcbgfnnfmaa", sum := "cd78b180f75e24ac50bc808c3659742c7af2cf45ad0e9d204a89ebc4a0e8d46f", func := "smalto/smaltolaw10.HeaderParses", spec := "headerParses", apart := false, narrowed := true }
def HeaderParsesUptoSaid : Prop := headerParsesUptoRow.holds Try.pinned (OpenSpec.upto headerParsesSpec)

/-- 'smaltolaw10.HeaderRemarks', WHERE WHAT IT READS IS OF BULK AT MOST 1048576: true; the input reads as it did. -/
def headerRemarksUptoRow : OpenClaim := { program := "ytnpkkcbgfnnfmaa", sum := "cd78b180f75e24ac50bc808c3659742c7af2cf45ad0e9d204a89ebc4a0e8d46f", func := "smalto/smaltolaw10.HeaderRemarks", spec := "headerRemarks", unfollowed := true, recurses := true, apart := false, narrowed := true }
def HeaderRemarksUptoSaid : Prop := headerRemarksUptoRow.holds Try.pinned (OpenSpec.upto headerRemarksSpec)

/-- 'smaltolaw10.HeaderBlanks', WHERE WHAT IT READS IS OF BULK AT MOST 1048576: true; the input reads as it did. -/
def headerBlanksUptoRow : OpenClaim := { program := "ytnpkkcbgfnnfmaa", sum := "cd78b180f75e24ac50bc808c3659742c7af2cf45ad0e9d204a89ebc4a0e8d46f", func := "smalto/smaltolaw10.HeaderBlanks", spec := "headerBlanks", apart := false, narrowed := true }
def HeaderBlanksUptoSaid : Prop := headerBlanksUptoRow.holds Try.pinned (OpenSpec.upto headerBlanksSpec)

/-- 'smaltolaw27.DiffOf', WHERE WHAT IT READS IS OF BULK AT MOST 1048576: true; the input reads as it did. -/
def diffOfUptoRow : OpenClaim := { program := "ytnpkkcbgfnnfmaa", sum := "cd78b180f75e24ac50bc808c3659742c7af2cf45ad0e9d204a89ebc4a0e8d46f", func := "smalto/smaltolaw27.DiffOf", spec := "diffOf", apart := false, narrowed := true }
def DiffOfUptoSaid : Prop := diffOfUptoRow.holds Try.pinned (OpenSpec.upto diffOfSpec)

/-- 'smaltolaw09.RasterPlays', WHERE WHAT IT READS IS OF BULK AT MOST 1048576: true; the input reads as it did. -/
def rasterPlaysUptoRow : OpenClaim := { program := "ytnpkkcbgfnnfmaa", sum := "cd78b180f75e24ac50bc808c3659742c7af2cf45ad0e9d204a89ebc4a0e8d46f", func := "smalto/smaltolaw09.RasterPlays", spec := "rasterPlays", apart := false, narrowed := true }
def RasterPlaysUptoSaid : Prop := rasterPlaysUptoRow.holds Try.pinned (OpenSpec.upto rasterPlaysSpec)

/-- 'smaltolaw27.DiffSet', WHERE WHAT IT READS IS OF BULK AT MOST 1048576: true; the input reads as it did. -/
def diffSetUptoRow : OpenClaim := { program := "ytnpkkcbgfnnfmaa", sum := "cd78b180f75e24ac50bc808c3659742c7af2cf45ad0e9d204a89ebc4a0e8d46f", func := "smalto/smaltolaw27.DiffSet", spec := "diffSet", apart := false, narrowed := true }
def DiffSetUptoSaid : Prop := diffSetUptoRow.holds Try.pinned (OpenSpec.upto diffSetSpec)

/-- 'smaltolaw27.DiffBounds', WHERE WHAT IT READS IS OF BULK AT MOST 1048576: true; the input reads as it did. -/
def diffBoundsUptoRow : OpenClaim := { program := "ytnpkkcbgfnnfmaa", sum := "cd78b180f75e24ac50bc808c3659742c7af2cf45ad0e9d204a89ebc4a0e8d46f", func := "smalto/smaltolaw27.DiffBounds", spec := "diffBounds", apart := false, narrowed := true }
def DiffBoundsUptoSaid : Prop := diffBoundsUptoRow.holds Try.pinned (OpenSpec.upto diffBoundsSpec)

/-- 'smaltolaw27.DiffHistogram', WHERE WHAT IT READS IS OF BULK AT MOST 1048576: true; the input reads as it did. -/
def diffHistogramUptoRow : OpenClaim := { program := "ytnpkkcbgfnnfmaa", sum := "cd78b180f75e24ac50bc808c3659742c7af2cf45ad0e9d204a89ebc4a0e8d46f", func := "smalto/smaltolaw27.DiffHistogram", spec := "diffHistogram", apart := false, narrowed := true }
def DiffHistogramUptoSaid : Prop := diffHistogramUptoRow.holds Try.pinned (OpenSpec.upto diffHistogramSpec)

/-- 'smaltolaw27.DiffRange', WHERE WHAT IT READS IS OF BULK AT MOST 1048576: true; the input reads as it did. -/
def diffRangeUptoRow : OpenClaim := { program := "ytnpkkcbgfnnfmaa", sum := "cd78b180f75e24ac50bc808c3659742c7af2cf45ad0e9d204a89ebc4a0e8d46f", func := "smalto/smaltolaw27.DiffRange", spec := "diffRange", apart := false, narrowed := true }
def DiffRangeUptoSaid : Prop := diffRangeUptoRow.holds Try.pinned (OpenSpec.upto diffRangeSpec)

end Rows
end Go.Proofs.Ytnpkkcbgfnnfmaa
