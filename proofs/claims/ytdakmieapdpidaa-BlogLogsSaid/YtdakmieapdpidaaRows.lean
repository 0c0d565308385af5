/-
  No cell of these rows narrows 'for every input' (looked for: loops, veiled, ifaces, maps, wideKeys, modest, calm, conditions, laid).
  DERIVED. THE GIVEN ROWS OF THIS SEAT. 4 by the template 'for every input the law returns true; each argument reads behind the call as it read before'; 0 by the template 'total and deterministic' (their statements: YtdakmieapdpidaaTotals.lean).
  GIVEN WITH THE SEED: the statements are not yours to turn. If you find one false, say at which input.
  Laid BY PROGRAM, IN A SANDBOX (cutbox-rows.mjs): the forced cells as the released guide's own fill.sh prints them over the translation 14b55889246919ae… (all of the seat's roots in one cut). By AI agents, Wed Nov 11 2026. No macro, syntax, notation, axiom, sorry.
-/
import Derived.Test.YtdakmieapdpidaaChecked
import GoSem.Claim
import GoSem.ClaimJoined
import GoSem.ClaimMapViews
import Derived.JoinedTies
import Derived.KernelRfl
namespace Go.Proofs.Ytdakmieapdpidaa
/- THE CELL 'sum', in the pinned program and in every row, IS THE sha256 OF THE DUMP (.gsa) THAT YtdakmieapdpidaaProg.lean LOADS. Nothing in Lean hashes anything: it is a label: what it is worth is what the hold of that sum in a sandbox is worth. -/
noncomputable def Try.pinned : Pinned := { name := "ytdakmieapdpidaa", sum := "14b55889246919ae1b09e1e97535a4d82f2220ced866a490015d854762666369", checked := Try.checked }
namespace Rows
def none {H : Type} : Left H := { results := [], args := [] }

/-- 'binnaclelaw25.BlogErrors': WHATEVER THE INPUT: true; the input reads as it did. -/
def blogErrorsSpec : ChangeSpec := { name := "blogErrors", fn := fun _ => fun
  | [d1, d2, d3, d4] => { results := [.lit (.bool true)], args := [d1, d2, d3, d4] }
  | _ => none }
def blogErrorsRow : OpenClaim := { program := "ytdakmieapdpidaa", sum := "14b55889246919ae1b09e1e97535a4d82f2220ced866a490015d854762666369", func := "binnacle/binnaclelaw25.BlogErrors", spec := "blogErrors", unfollowed := true, recurses := true, apart := false }
def BlogErrorsSaid : Prop := blogErrorsRow.holds Try.pinned (OpenSpec.ofChange blogErrorsSpec)

/-- ITS FALSE NEIGHBOUR: 'it returns false'. Refute it at one input. -/
def blogErrorsWrong : ChangeSpec := { name := "blogErrors", fn := fun _ => fun
  | [d1, d2, d3, d4] => { results := [.lit (.bool false)], args := [d1, d2, d3, d4] }
  | _ => none }
def BlogErrorsWrongFalsely : Prop := blogErrorsRow.holds Try.pinned (OpenSpec.ofChange blogErrorsWrong)

/-- 'binnaclelaw25.BlogAny': WHATEVER THE INPUT: true; the input reads as it did. -/
def blogAnySpec : ChangeSpec := { name := "blogAny", fn := fun _ => fun
  | [d1, d2, d3, d4, d5] => { results := [.lit (.bool true)], args := [d1, d2, d3, d4, d5] }
  | _ => none }
def blogAnyRow : OpenClaim := { program := "ytdakmieapdpidaa", sum := "14b55889246919ae1b09e1e97535a4d82f2220ced866a490015d854762666369", func := "binnacle/binnaclelaw25.BlogAny", spec := "blogAny", apart := false }
def BlogAnySaid : Prop := blogAnyRow.holds Try.pinned (OpenSpec.ofChange blogAnySpec)

/-- ITS FALSE NEIGHBOUR: 'it returns false'. Refute it at one input. -/
def blogAnyWrong : ChangeSpec := { name := "blogAny", fn := fun _ => fun
  | [d1, d2, d3, d4, d5] => { results := [.lit (.bool false)], args := [d1, d2, d3, d4, d5] }
  | _ => none }
def BlogAnyWrongFalsely : Prop := blogAnyRow.holds Try.pinned (OpenSpec.ofChange blogAnyWrong)

/-- 'binnaclelaw25.BlogBytes': WHATEVER THE INPUT: true; the input reads as it did. -/
def blogBytesSpec : ChangeSpec := { name := "blogBytes", fn := fun _ => fun
  | [d1, d2, d3] => { results := [.lit (.bool true)], args := [d1, d2, d3] }
  | _ => none }
def blogBytesRow : OpenClaim := { program := "ytdakmieapdpidaa", sum := "14b55889246919ae1b09e1e97535a4d82f2220ced866a490015d854762666369", func := "binnacle/binnaclelaw25.BlogBytes", spec := "blogBytes", apart := false }
def BlogBytesSaid : Prop := blogBytesRow.holds Try.pinned (OpenSpec.ofChange blogBytesSpec)

/-- ITS FALSE NEIGHBOUR: 'it returns false'. Refute it at one input. -/
def blogBytesWrong : ChangeSpec := { name := "blogBytes", fn := fun _ => fun
  | [d1, d2, d3] => { results := [.lit (.bool false)], args := [d1, d2, d3] }
  | _ => none }
def BlogBytesWrongFalsely : Prop := blogBytesRow.holds Try.pinned (OpenSpec.ofChange blogBytesWrong)

/-- 'binnaclelaw25.BlogLogs': WHATEVER THE INPUT: true; the input reads as it did. -/
def blogLogsSpec : ChangeSpec := { name := "blogLogs", fn := fun _ => fun
  | [d1, d2, d3, d4] => { results := [.lit (.bool true)], args := [d1, d2, d3, d4] }
  | _ => none }
def blogLogsRow : OpenClaim := { program := "ytdakmieapdpidaa", sum := "14b55889246919ae1b09e1e97535a4d82f2220ced866a490015d854762666369", func := "binnacle/binnaclelaw25.BlogLogs", spec := "blogLogs", apart := false }
def BlogLogsSaid : Prop := blogLogsRow.holds Try.pinned (OpenSpec.ofChange blogLogsSpec)

/-- ITS FALSE NEIGHBOUR: 'it returns false'. Refute it at one input. -/
def blogLogsWrong : ChangeSpec := { name := "blogLogs", fn := fun _ => fun
  | [d1, d2, d3, d4] => { results := [.lit (.bool false)], args := [d1, d2, d3, d4] }
  | _ => none }
def BlogLogsWrongFalsely : Prop := blogLogsRow.holds Try.pinned (OpenSpec.ofChange blogLogsWrong)

/- THE SECOND FORM. 'bulk': how many values and letters a reading holds, each counted each time it is reached (what is shared counts as often as it is met; a slice's spare places count too). A statement '..UptoSaid' is the law's where the arguments, and the package variables that the reading takes, are together of bulk at most 1048576: NARROWER than '..Said'. Prove '..Said' where nothing that the law and all that it calls make is longer than what came in: it says more and counts as full. Else prove '..UptoSaid'. A law counts once. -/
mutual
def uptoBulk {H : Type} : DataW H → Nat
  | .lit (.string bytes) => bytes.length + 1
  | .lit _ => 1
  | .nil => 1
  | .ptr d => uptoBulk d + 1
  | .slice elems spare => uptoBulkAll elems + uptoBulkAll spare + 1
  | .agg parts => uptoBulkAll parts + 1
  | .iface _ d => uptoBulk d + 1
  | .map entries => uptoBulkEntries entries + 1
  | .held _ => 1
def uptoBulkAll {H : Type} : List (DataW H) → Nat
  | [] => 0
  | d :: r => uptoBulk d + uptoBulkAll r
def uptoBulkEntries {H : Type} : List (Lit × DataW H) → Nat
  | [] => 0
  | x :: r => uptoBulkEntry x + uptoBulkEntries r
def uptoBulkEntry {H : Type} : Lit × DataW H → Nat
  | (.string bytes, d) => bytes.length + uptoBulk d + 1
  | (_, d) => uptoBulk d + 1
 end
def uptoSmall : (H : Type) → List (DataW H) → Bool := fun _ ds => decide (uptoBulkAll ds ≤ 1048576)
def OpenSpec.upto (s : _root_.Go.ChangeSpec) : _root_.Go.OpenSpec := { _root_.Go.OpenSpec.ofChange s with cond := some uptoSmall }

/-- 'binnaclelaw25.BlogErrors', WHERE WHAT IT READS IS OF BULK AT MOST 1048576: true; the input reads as it did. -/
def blogErrorsUptoRow : OpenClaim := { program := "ytdakmieapdpidaa", sum := "14b55889246919ae1b09e1e97535a4d82f2220ced866a490015d854762666369", func := "binnacle/binnaclelaw25.BlogErrors", spec := "blogErrors", unfollowed := true, recurses := true, apart := false, narrowed := true }
def BlogErrorsUptoSaid : Prop := blogErrorsUptoRow.holds Try.pinned (OpenSpec.upto blogErrorsSpec)

/-- 'binnaclelaw25.BlogAny', WHERE WHAT IT READS IS OF BULK AT MOST 1048576: true; the input reads as it did. -/
def blogAnyUptoRow : OpenClaim := { program := "ytdakmieapdpidaa", sum := "14b55889246919ae1b09e1e97535a4d82f2220ced866a490015d854762666369", func := "binnacle/binnaclelaw25.BlogAny", spec := "blogAny", apart := false, narrowed := true }
def BlogAnyUptoSaid : Prop := blogAnyUptoRow.holds Try.pinned (OpenSpec.upto blogAnySpec)

/-- 'binnaclelaw25.BlogBytes', WHERE WHAT IT READS IS OF BULK AT MOST 1048576: true; the input reads as it did. -/
def blogBytesUptoRow : OpenClaim := { program := "ytdakmieapdpidaa", sum := "14b55889246919ae1b09e1e97535a4d82f2220ced866a490015d854762666369", func := "binnacle/binnaclelaw25.BlogBytes", spec := "blogBytes", apart := false, narrowed := true }
def BlogBytesUptoSaid : Prop := blogBytesUptoRow.holds Try.pinned (OpenSpec.upto blogBytesSpec)

/-- 'binnaclelaw25.BlogLogs', WHERE WHAT IT READS IS OF BULK AT MOST 1048576: true; the input reads as it did. -/
def blogLogsUptoRow : OpenClaim := { program := "ytdakmieapdpidaa", sum := "14b55889246919ae1b09e1e97535a4d82f2220ced866a490015d854762666369", func := "binnacle/binnaclelaw25.BlogLogs", spec := "blogLogs", apart := false, narrowed := true }
def BlogLogsUptoSaid : Prop := blogLogsUptoRow.holds Try.pinned (OpenSpec.upto blogLogsSpec)

end Rows
end Go.Proofs.Ytdakmieapdpidaa
