/-
  No cell of these rows narrows 'for every input' (looked for: loops, veiled, ifaces, maps, wideKeys, modest, calm, conditions, laid).
  DERIVED. THE GIVEN ROWS OF THIS SEAT. 12 by the template 'for every input the law returns true; each argument reads behind the call as it read before'; 0 by the template 'total and deterministic' (their statements: YtmpnhiehkiiepaaTotals.lean).
  GIVEN WITH THE SEED: the statements are not yours to turn. If you find one false, say at which input.
  Laid BY PROGRAM, IN A SANDBOX (cutbox-rows.mjs): the forced cells as the released guide's own fill.sh prints them over the translation ff96ffb4ca789202… (all of the seat's roots in one cut). By AI agents, Wed Nov 11 2026. No macro, syntax, notation, axiom, sorry.
-/
import Derived.Test.YtmpnhiehkiiepaaChecked
import GoSem.Claim
import GoSem.ClaimJoined
import GoSem.ClaimMapViews
import Derived.JoinedTies
import Derived.KernelRfl
namespace Go.Proofs.Ytmpnhiehkiiepaa
/- THE CELL 'sum', in the pinned program and in every row, IS THE sha256 OF THE DUMP (.gsa) THAT YtmpnhiehkiiepaaProg.lean LOADS. Nothing in Lean hashes anything: it is a label: what it is worth is what the hold of that sum in a sandbox is worth. -/
noncomputable def Try.pinned : Pinned := { name := "ytmpnhiehkiiepaa", sum := "ff96ffb4ca78920271b876db6346b4dd156e1cb04113267e882aed2440af40de", checked := Try.checked }
namespace Rows
def none {H : Type} : Left H := { results := [], args := [] }

/-- 'binnaclelaw02.PnumWholes': WHATEVER THE INPUT: true; the input reads as it did. -/
def pnumWholesSpec : ChangeSpec := { name := "pnumWholes", fn := fun _ => fun
  | [d1, d2, d3] => { results := [.lit (.bool true)], args := [d1, d2, d3] }
  | _ => none }
def pnumWholesRow : OpenClaim := { program := "ytmpnhiehkiiepaa", sum := "ff96ffb4ca78920271b876db6346b4dd156e1cb04113267e882aed2440af40de", func := "binnacle/binnaclelaw02.PnumWholes", spec := "pnumWholes", apart := false }
def PnumWholesSaid : Prop := pnumWholesRow.holds Try.pinned (OpenSpec.ofChange pnumWholesSpec)

/-- ITS FALSE NEIGHBOUR: 'it returns false'. Refute it at one input. -/
def pnumWholesWrong : ChangeSpec := { name := "pnumWholes", fn := fun _ => fun
  | [d1, d2, d3] => { results := [.lit (.bool false)], args := [d1, d2, d3] }
  | _ => none }
def PnumWholesWrongFalsely : Prop := pnumWholesRow.holds Try.pinned (OpenSpec.ofChange pnumWholesWrong)

/-- 'binnaclelaw02.PnumSizes': WHATEVER THE INPUT: true; the input reads as it did. -/
def pnumSizesSpec : ChangeSpec := { name := "pnumSizes", fn := fun _ => fun
  | [d1, d2, d3] => { results := [.lit (.bool true)], args := [d1, d2, d3] }
  | _ => none }
def pnumSizesRow : OpenClaim := { program := "ytmpnhiehkiiepaa", sum := "ff96ffb4ca78920271b876db6346b4dd156e1cb04113267e882aed2440af40de", func := "binnacle/binnaclelaw02.PnumSizes", spec := "pnumSizes", apart := false }
def PnumSizesSaid : Prop := pnumSizesRow.holds Try.pinned (OpenSpec.ofChange pnumSizesSpec)

/-- ITS FALSE NEIGHBOUR: 'it returns false'. Refute it at one input. -/
def pnumSizesWrong : ChangeSpec := { name := "pnumSizes", fn := fun _ => fun
  | [d1, d2, d3] => { results := [.lit (.bool false)], args := [d1, d2, d3] }
  | _ => none }
def PnumSizesWrongFalsely : Prop := pnumSizesRow.holds Try.pinned (OpenSpec.ofChange pnumSizesWrong)

/-- 'binnaclelaw02.PnumBack': WHATEVER THE INPUT: true; the input reads as it did. -/
def pnumBackSpec : ChangeSpec := { name := "pnumBack", fn := fun _ => fun
  | [d1, d2, d3] => { results := [.lit (.bool true)], args := [d1, d2, d3] }
  | _ => none }
def pnumBackRow : OpenClaim := { program := "ytmpnhiehkiiepaa", sum := "ff96ffb4ca78920271b876db6346b4dd156e1cb04113267e882aed2440af40de", func := "binnacle/binnaclelaw02.PnumBack", spec := "pnumBack", apart := false }
def PnumBackSaid : Prop := pnumBackRow.holds Try.pinned (OpenSpec.ofChange pnumBackSpec)

/-- ITS FALSE NEIGHBOUR: 'it returns false'. Refute it at one input. -/
def pnumBackWrong : ChangeSpec := { name := "pnumBack", fn := fun _ => fun
  | [d1, d2, d3] => { results := [.lit (.bool false)], args := [d1, d2, d3] }
  | _ => none }
def PnumBackWrongFalsely : Prop := pnumBackRow.holds Try.pinned (OpenSpec.ofChange pnumBackWrong)

/-- 'binnaclelaw24.EventShapes': WHATEVER THE INPUT: true; the input reads as it did. -/
def eventShapesSpec : ChangeSpec := { name := "eventShapes", fn := fun _ => fun
  | [d1, d2] => { results := [.lit (.bool true)], args := [d1, d2] }
  | _ => none }
def eventShapesRow : OpenClaim := { program := "ytmpnhiehkiiepaa", sum := "ff96ffb4ca78920271b876db6346b4dd156e1cb04113267e882aed2440af40de", func := "binnacle/binnaclelaw24.EventShapes", spec := "eventShapes", apart := false }
def EventShapesSaid : Prop := eventShapesRow.holds Try.pinned (OpenSpec.ofChange eventShapesSpec)

/-- ITS FALSE NEIGHBOUR: 'it returns false'. Refute it at one input. -/
def eventShapesWrong : ChangeSpec := { name := "eventShapes", fn := fun _ => fun
  | [d1, d2] => { results := [.lit (.bool false)], args := [d1, d2] }
  | _ => none }
def EventShapesWrongFalsely : Prop := eventShapesRow.holds Try.pinned (OpenSpec.ofChange eventShapesWrong)

/-- 'binnaclelaw01.VintBytes': WHATEVER THE INPUT: true; the input reads as it did. -/
def vintBytesSpec : ChangeSpec := { name := "vintBytes", fn := fun _ => fun
  | [d1, d2, d3, d4] => { results := [.lit (.bool true)], args := [d1, d2, d3, d4] }
  | _ => none }
def vintBytesRow : OpenClaim := { program := "ytmpnhiehkiiepaa", sum := "ff96ffb4ca78920271b876db6346b4dd156e1cb04113267e882aed2440af40de", func := "binnacle/binnaclelaw01.VintBytes", spec := "vintBytes", apart := false }
def VintBytesSaid : Prop := vintBytesRow.holds Try.pinned (OpenSpec.ofChange vintBytesSpec)

/-- ITS FALSE NEIGHBOUR: 'it returns false'. Refute it at one input. -/
def vintBytesWrong : ChangeSpec := { name := "vintBytes", fn := fun _ => fun
  | [d1, d2, d3, d4] => { results := [.lit (.bool false)], args := [d1, d2, d3, d4] }
  | _ => none }
def VintBytesWrongFalsely : Prop := vintBytesRow.holds Try.pinned (OpenSpec.ofChange vintBytesWrong)

/-- 'binnaclelaw01.VintTakes': WHATEVER THE INPUT: true; the input reads as it did. -/
def vintTakesSpec : ChangeSpec := { name := "vintTakes", fn := fun _ => fun
  | [d] => { results := [.lit (.bool true)], args := [d] }
  | _ => none }
def vintTakesRow : OpenClaim := { program := "ytmpnhiehkiiepaa", sum := "ff96ffb4ca78920271b876db6346b4dd156e1cb04113267e882aed2440af40de", func := "binnacle/binnaclelaw01.VintTakes", spec := "vintTakes", apart := false }
def VintTakesSaid : Prop := vintTakesRow.holds Try.pinned (OpenSpec.ofChange vintTakesSpec)

/-- ITS FALSE NEIGHBOUR: 'it returns false'. Refute it at one input. -/
def vintTakesWrong : ChangeSpec := { name := "vintTakes", fn := fun _ => fun
  | [d] => { results := [.lit (.bool false)], args := [d] }
  | _ => none }
def VintTakesWrongFalsely : Prop := vintTakesRow.holds Try.pinned (OpenSpec.ofChange vintTakesWrong)

/-- 'binnaclelaw24.EventChecks': WHATEVER THE INPUT: true; the input reads as it did. -/
def eventChecksSpec : ChangeSpec := { name := "eventChecks", fn := fun _ => fun
  | [d1, d2] => { results := [.lit (.bool true)], args := [d1, d2] }
  | _ => none }
def eventChecksRow : OpenClaim := { program := "ytmpnhiehkiiepaa", sum := "ff96ffb4ca78920271b876db6346b4dd156e1cb04113267e882aed2440af40de", func := "binnacle/binnaclelaw24.EventChecks", spec := "eventChecks", apart := false }
def EventChecksSaid : Prop := eventChecksRow.holds Try.pinned (OpenSpec.ofChange eventChecksSpec)

/-- ITS FALSE NEIGHBOUR: 'it returns false'. Refute it at one input. -/
def eventChecksWrong : ChangeSpec := { name := "eventChecks", fn := fun _ => fun
  | [d1, d2] => { results := [.lit (.bool false)], args := [d1, d2] }
  | _ => none }
def EventChecksWrongFalsely : Prop := eventChecksRow.holds Try.pinned (OpenSpec.ofChange eventChecksWrong)

/-- 'binnaclelaw01.VintWrites': WHATEVER THE INPUT: true; the input reads as it did. -/
def vintWritesSpec : ChangeSpec := { name := "vintWrites", fn := fun _ => fun
  | [d1, d2, d3] => { results := [.lit (.bool true)], args := [d1, d2, d3] }
  | _ => none }
def vintWritesRow : OpenClaim := { program := "ytmpnhiehkiiepaa", sum := "ff96ffb4ca78920271b876db6346b4dd156e1cb04113267e882aed2440af40de", func := "binnacle/binnaclelaw01.VintWrites", spec := "vintWrites", apart := false }
def VintWritesSaid : Prop := vintWritesRow.holds Try.pinned (OpenSpec.ofChange vintWritesSpec)

/-- ITS FALSE NEIGHBOUR: 'it returns false'. Refute it at one input. -/
def vintWritesWrong : ChangeSpec := { name := "vintWrites", fn := fun _ => fun
  | [d1, d2, d3] => { results := [.lit (.bool false)], args := [d1, d2, d3] }
  | _ => none }
def VintWritesWrongFalsely : Prop := vintWritesRow.holds Try.pinned (OpenSpec.ofChange vintWritesWrong)

/-- 'binnaclelaw24.EventSame': WHATEVER THE INPUT: true; the input reads as it did. -/
def eventSameSpec : ChangeSpec := { name := "eventSame", fn := fun _ => fun
  | [d1, d2, d3, d4] => { results := [.lit (.bool true)], args := [d1, d2, d3, d4] }
  | _ => none }
def eventSameRow : OpenClaim := { program := "ytmpnhiehkiiepaa", sum := "ff96ffb4ca78920271b876db6346b4dd156e1cb04113267e882aed2440af40de", func := "binnacle/binnaclelaw24.EventSame", spec := "eventSame", apart := false }
def EventSameSaid : Prop := eventSameRow.holds Try.pinned (OpenSpec.ofChange eventSameSpec)

/-- ITS FALSE NEIGHBOUR: 'it returns false'. Refute it at one input. -/
def eventSameWrong : ChangeSpec := { name := "eventSame", fn := fun _ => fun
  | [d1, d2, d3, d4] => { results := [.lit (.bool false)], args := [d1, d2, d3, d4] }
  | _ => none }
def EventSameWrongFalsely : Prop := eventSameRow.holds Try.pinned (OpenSpec.ofChange eventSameWrong)

/-- 'binnaclelaw10.ParamSame': WHATEVER THE INPUT: true; the input reads as it did. -/
def paramSameSpec : ChangeSpec := { name := "paramSame", fn := fun _ => fun
  | [d1, d2, d3] => { results := [.lit (.bool true)], args := [d1, d2, d3] }
  | _ => none }
def paramSameRow : OpenClaim := { program := "ytmpnhiehkiiepaa", sum := "ff96ffb4ca78920271b876db6346b4dd156e1cb04113267e882aed2440af40de", func := "binnacle/binnaclelaw10.ParamSame", spec := "paramSame", unfollowed := true, recurses := true, apart := false }
def ParamSameSaid : Prop := paramSameRow.holds Try.pinned (OpenSpec.ofChange paramSameSpec)

/-- ITS FALSE NEIGHBOUR: 'it returns false'. Refute it at one input. -/
def paramSameWrong : ChangeSpec := { name := "paramSame", fn := fun _ => fun
  | [d1, d2, d3] => { results := [.lit (.bool false)], args := [d1, d2, d3] }
  | _ => none }
def ParamSameWrongFalsely : Prop := paramSameRow.holds Try.pinned (OpenSpec.ofChange paramSameWrong)

/-- 'binnaclelaw01.VintReads': WHATEVER THE INPUT: true; the input reads as it did. -/
def vintReadsSpec : ChangeSpec := { name := "vintReads", fn := fun _ => fun
  | [d1, d2, d3] => { results := [.lit (.bool true)], args := [d1, d2, d3] }
  | _ => none }
def vintReadsRow : OpenClaim := { program := "ytmpnhiehkiiepaa", sum := "ff96ffb4ca78920271b876db6346b4dd156e1cb04113267e882aed2440af40de", func := "binnacle/binnaclelaw01.VintReads", spec := "vintReads", unfollowed := true, recurses := true, apart := false }
def VintReadsSaid : Prop := vintReadsRow.holds Try.pinned (OpenSpec.ofChange vintReadsSpec)

/-- ITS FALSE NEIGHBOUR: 'it returns false'. Refute it at one input. -/
def vintReadsWrong : ChangeSpec := { name := "vintReads", fn := fun _ => fun
  | [d1, d2, d3] => { results := [.lit (.bool false)], args := [d1, d2, d3] }
  | _ => none }
def VintReadsWrongFalsely : Prop := vintReadsRow.holds Try.pinned (OpenSpec.ofChange vintReadsWrong)

/-- 'binnaclelaw01.VintNone': WHATEVER THE INPUT: true; the input reads as it did. -/
def vintNoneSpec : ChangeSpec := { name := "vintNone", fn := fun _ => fun
  | [d1, d2, d3] => { results := [.lit (.bool true)], args := [d1, d2, d3] }
  | _ => none }
def vintNoneRow : OpenClaim := { program := "ytmpnhiehkiiepaa", sum := "ff96ffb4ca78920271b876db6346b4dd156e1cb04113267e882aed2440af40de", func := "binnacle/binnaclelaw01.VintNone", spec := "vintNone", apart := false }
def VintNoneSaid : Prop := vintNoneRow.holds Try.pinned (OpenSpec.ofChange vintNoneSpec)

/-- ITS FALSE NEIGHBOUR: 'it returns false'. Refute it at one input. -/
def vintNoneWrong : ChangeSpec := { name := "vintNone", fn := fun _ => fun
  | [d1, d2, d3] => { results := [.lit (.bool false)], args := [d1, d2, d3] }
  | _ => none }
def VintNoneWrongFalsely : Prop := vintNoneRow.holds Try.pinned (OpenSpec.ofChange vintNoneWrong)

/- THE SECOND FORM. 'bulk': how many values and letters a reading holds, each counted each time it is reached (what is shared counts as often as it is met; a slice's spare places count too). A statement '..UptoSaid' is the law's where the arguments, and the package variables that the reading takes, are together of bulk at most 1048576: NARROWER than '..Said'. Prove '..Said' where nothing that the law and all that it calls make is longer than what came in: it says more and counts as full. Else prove '..UptoSaid'. A law counts once. -/
mutual
def uptoBulk {H : Type} : DataW H → Nat
  | .lit (.string bytes) => bytes.length + 1
  | .lit _ => 1
  | .nil => 1
  | .ptr d => uptoBulk d + 1
  | .slice elems spare => uptoBulkAll elems + uptoBulkAll spare + 1
  | .agg parts => uptoBulkAll parts + 1
  | .iface _ d => uptoBulk d + 1
  | .map entries => uptoBulkEntries entries + 1
  | .held _ => 1
def uptoBulkAll {H : Type} : List (DataW H) → Nat
  | [] => 0
  | d :: r => uptoBulk d + uptoBulkAll r
def uptoBulkEntries {H : Type} : List (Lit × DataW H) → Nat
  | [] => 0
  | x :: r => uptoBulkEntry x + uptoBulkEntries r
def uptoBulkEntry {H : Type} : Lit × DataW H → Nat
  | (.string bytes, d) => bytes.length + uptoBulk d + 1
  | (_, d) => uptoBulk d + 1
 end
def uptoSmall : (H : Type) → List (DataW H) → Bool := fun _ ds => decide (uptoBulkAll ds ≤ 1048576)
def OpenSpec.upto (s : _root_.Go.ChangeSpec) : _root_.Go.OpenSpec := { _root_.Go.OpenSpec.ofChange s with cond := some uptoSmall }

/-- 'binnaclelaw02.PnumWholes', WHERE WHAT IT READS IS OF BULK AT MOST 1048576: true; the input reads as it did. -/
def pnumWholesUptoRow : OpenClaim := { program := "ytmpnhiehkiiepaa", sum := "ff96ffb4ca78920271b876db6346b4dd156e1cb04113267e882aed2440af40de", func := "binnacle/binnaclelaw02.PnumWholes", spec := "pnumWholes", apart := false, narrowed := true }
def PnumWholesUptoSaid : Prop := pnumWholesUptoRow.holds Try.pinned (OpenSpec.upto pnumWholesSpec)

/-- 'binnaclelaw02.PnumSizes', WHERE WHAT IT READS IS OF BULK AT MOST 1048576: true; the input reads as it did. -/
def pnumSizesUptoRow : OpenClaim := { program := "ytmpnhiehkiiepaa", sum := "ff96ffb4ca78920271b876db6346b4dd156e1cb04113267e882aed2440af40de", func := "binnacle/binnaclelaw02.PnumSizes", spec := "pnumSizes", apart := false, narrowed := true }
def PnumSizesUptoSaid : Prop := pnumSizesUptoRow.holds Try.pinned (OpenSpec.upto pnumSizesSpec)

/-- 'binnaclelaw02.PnumBack', WHERE WHAT IT READS IS OF BULK AT MOST 1048576: true; the input reads as it did. -/
def pnumBackUptoRow : OpenClaim := { program := "ytmpnhiehkiiepaa", sum := "ff96ffb4ca78920271b876db6346b4dd156e1cb04113267e882aed2440af40de", func := "binnacle/binnaclelaw02.PnumBack", spec := "pnumBack", apart := false, narrowed := true }
def PnumBackUptoSaid : Prop := pnumBackUptoRow.holds Try.pinned (OpenSpec.upto pnumBackSpec)

/-- 'binnaclelaw24.EventShapes', WHERE WHAT IT READS IS OF BULK AT MOST 1048576: true; the input reads as it did. -/
def eventShapesUptoRow : OpenClaim := { program := "ytmpnhiehkiiepaa", sum := "ff96ffb4ca78920271b876db6346b4dd156e1cb04113267e882aed2440af40de", func := "binnacle/binnaclelaw24.EventShapes", spec := "eventShapes", apart := false, narrowed := true }
def EventShapesUptoSaid : Prop := eventShapesUptoRow.holds Try.pinned (OpenSpec.upto eventShapesSpec)

/-- 'binnaclelaw01.VintBytes', WHERE WHAT IT READS IS OF BULK AT MOST 1048576: true; the input reads as it did. -/
def vintBytesUptoRow : OpenClaim := { program := "ytmpnhiehkiiepaa", sum := "ff96ffb4ca78920271b876db6346b4dd156e1cb04113267e882aed2440af40de", func := "binnacle/binnaclelaw01.VintBytes", spec := "vintBytes", apart := false, narrowed := true }
def VintBytesUptoSaid : Prop := vintBytesUptoRow.holds Try.pinned (OpenSpec.upto vintBytesSpec)

/-- 'binnaclelaw01.VintTakes', WHERE WHAT IT READS IS OF BULK AT MOST 1048576: true; the input reads as it did. -/
def vintTakesUptoRow : OpenClaim := { program := "ytmpnhiehkiiepaa", sum := "ff96ffb4ca78920271b876db6346b4dd156e1cb04113267e882aed2440af40de", func := "binnacle/binnaclelaw01.VintTakes", spec := "vintTakes", apart := false, narrowed := true }
def VintTakesUptoSaid : Prop := vintTakesUptoRow.holds Try.pinned (OpenSpec.upto vintTakesSpec)

/-- 'binnaclelaw24.EventChecks', WHERE WHAT IT READS IS OF BULK AT MOST 1048576: true; the input reads as it did. -/
def eventChecksUptoRow : OpenClaim := { program := "ytmpnhiehkiiepaa", sum := "ff96ffb4ca78920271b876db6346b4dd156e1cb04113267e882aed2440af40de", func := "binnacle/binnaclelaw24.EventChecks", spec := "eventChecks", apart := false, narrowed := true }
def EventChecksUptoSaid : Prop := eventChecksUptoRow.holds Try.pinned (OpenSpec.upto eventChecksSpec)

/-- 'binnaclelaw01.VintWrites', WHERE WHAT IT READS IS OF BULK AT MOST 1048576: true; the input reads as it did. -/
def vintWritesUptoRow : OpenClaim := { program := "ytmpnhiehkiiepaa", sum := "ff96ffb4ca78920271b876db6346b4dd156e1cb04113267e882aed2440af40de", func := "binnacle/binnaclelaw01.VintWrites", spec := "vintWrites", apart := false, narrowed := true }
def VintWritesUptoSaid : Prop := vintWritesUptoRow.holds Try.pinned (OpenSpec.upto vintWritesSpec)

/-- 'binnaclelaw24.EventSame', WHERE WHAT IT READS IS OF BULK AT MOST 1048576: true; the input reads as it did. -/
def eventSameUptoRow : OpenClaim := { program := "ytmpnhiehkiiepaa", sum := "ff96ffb4ca78920271b876db6346b4dd156e1cb04113267e882aed2440af40de", func := "binnacle/binnaclelaw24.EventSame", spec := "eventSame", apart := false, narrowed := true }
def EventSameUptoSaid : Prop := eventSameUptoRow.holds Try.pinned (OpenSpec.upto eventSameSpec)

/-- 'binnaclelaw10.ParamSame', WHERE WHAT IT READS IS OF BULK AT MOST 1048576: true; the input reads as it did. -/
def paramSameUptoRow : OpenClaim := { program := "ytmpnhiehkiiepaa", sum := "ff96ffb4ca78920271b876db6346b4dd156e1cb04113267e882aed2440af40de", func := "binnacle/binnaclelaw10.ParamSame", spec := "paramSame", unfollowed := true, recurses := true, apart := false, narrowed := true }
def ParamSameUptoSaid : Prop := paramSameUptoRow.holds Try.pinned (OpenSpec.upto paramSameSpec)

/-- 'binnaclelaw01.VintReads', WHERE WHAT IT READS IS OF BULK AT MOST 1048576: true; the input reads as it did. -/
def vintReadsUptoRow : OpenClaim := { program := "ytmpnhiehkiiepaa", sum := "ff96ffb4ca78920271b876db6346b4dd156e1cb04113267e882aed2440af40de", func := "binnacle/binnaclelaw01.VintReads", spec := "vintReads", unfollowed := true, recurses := true, apart := false, narrowed := true }
def VintReadsUptoSaid : Prop := vintReadsUptoRow.holds Try.pinned (OpenSpec.upto vintReadsSpec)

/-- 'binnaclelaw01.VintNone', WHERE WHAT IT READS IS OF BULK AT MOST 1048576: true; the input reads as it did. -/
def vintNoneUptoRow : OpenClaim := { program := "ytmpnhiehkiiepaa", sum := "ff96ffb4ca78920271b876db6346b4dd156e1cb04113267e882aed2440af40de", func := "binnacle/binnaclelaw01.VintNone", spec := "vintNone", apart := false, narrowed := true }
def VintNoneUptoSaid : Prop := vintNoneUptoRow.holds Try.pinned (OpenSpec.upto vintNoneSpec)

end Rows
end Go.Proofs.Ytmpnhiehkiiepaa
