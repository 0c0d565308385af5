/-
  No cell of these rows narrows 'for every input' (looked for: loops, veiled, ifaces, maps, wideKeys, modest, calm, conditions, laid).
  DERIVED. THE GIVEN ROWS OF THIS SEAT. 9 by the template 'for every input the law returns true; each argument reads behind the call as it read before'; 0 by the template 'total and deterministic' (their statements: YtkjdkeolkigibaaTotals.lean).
  GIVEN WITH THE SEED: the statements are not yours to turn. If you find one false, say at which input.
  Laid BY PROGRAM, IN A SANDBOX (cutbox-rows.mjs): the forced cells as the released guide's own fill.sh prints them over the translation aee671e83b61fdbf… (all of the seat's roots in one cut). By AI agents, Wed Nov 11 2026. No macro, syntax, notation, axiom, sorry.
-/
import Derived.Test.YtkjdkeolkigibaaChecked
import GoSem.Claim
import GoSem.ClaimJoined
import GoSem.ClaimMapViews
import Derived.JoinedTies
import Derived.KernelRfl
namespace Go.Proofs.Ytkjdkeolkigibaa
/- THE CELL 'sum', in the pinned program and in every row, IS THE sha256 OF THE DUMP (.gsa) THAT YtkjdkeolkigibaaProg.lean LOADS. Nothing in Lean hashes anything: it is a label: what it is worth is what the hold of that sum in a sandbox is worth. -/
noncomputable def Try.pinned : Pinned := { name := "ytkjdkeolkigibaa", sum := "aee671e83b61fdbfb4c86dd85374a406b2a041135cc052d9209fc5ac5293ae99", checked := Try.checked }
namespace Rows
def none {H : Type} : Left H := { results := [], args := [] }

/-- 'binnaclelaw09.HeaderPuts': WHATEVER THE INPUT: true; the input reads as it did. -/
def headerPutsSpec : ChangeSpec := { name := "headerPuts", fn := fun _ => fun
  | [d1, d2] => { results := [.lit (.bool true)], args := [d1, d2] }
  | _ => none }
def headerPutsRow : OpenClaim := { program := "ytkjdkeolkigibaa", sum := "aee671e83b61fdbfb4c86dd85374a406b2a041135cc052d9209fc5ac5293ae99", func := "binnacle/binnaclelaw09.HeaderPuts", spec := "headerPuts", apart := false }
def HeaderPutsSaid : Prop := headerPutsRow.holds Try.pinned (OpenSpec.ofChange headerPutsSpec)

/-- ITS FALSE NEIGHBOUR: 'it returns false'. Refute it at one input. -/
def headerPutsWrong : ChangeSpec := { name := "headerPuts", fn := fun _ => fun
  | [d1, d2] => { results := [.lit (.bool false)], args := [d1, d2] }
  | _ => none }
def HeaderPutsWrongFalsely : Prop := headerPutsRow.holds Try.pinned (OpenSpec.ofChange headerPutsWrong)

/-- 'binnaclelaw10.ParamBack': WHATEVER THE INPUT: true; the input reads as it did. -/
def paramBackSpec : ChangeSpec := { name := "paramBack", fn := fun _ => fun
  | [d] => { results := [.lit (.bool true)], args := [d] }
  | _ => none }
def paramBackRow : OpenClaim := { program := "ytkjdkeolkigibaa", sum := "aee671e83b61fdbfb4c86dd85374a406b2a041135cc052d9209fc5ac5293ae99", func := "binnacle/binnaclelaw10.ParamBack", spec := "paramBack", unfollowed := true, recurses := true, apart := false }
def ParamBackSaid : Prop := paramBackRow.holds Try.pinned (OpenSpec.ofChange paramBackSpec)

/-- ITS FALSE NEIGHBOUR: 'it returns false'. Refute it at one input. -/
def paramBackWrong : ChangeSpec := { name := "paramBack", fn := fun _ => fun
  | [d] => { results := [.lit (.bool false)], args := [d] }
  | _ => none }
def ParamBackWrongFalsely : Prop := paramBackRow.holds Try.pinned (OpenSpec.ofChange paramBackWrong)

/-- 'binnaclelaw10.ParamOrder': WHATEVER THE INPUT: true; the input reads as it did. -/
def paramOrderSpec : ChangeSpec := { name := "paramOrder", fn := fun _ => fun
  | [d1, d2, d3, d4, d5] => { results := [.lit (.bool true)], args := [d1, d2, d3, d4, d5] }
  | _ => none }
def paramOrderRow : OpenClaim := { program := "ytkjdkeolkigibaa", sum := "aee671e83b61fdbfb4c86dd85374a406b2a041135cc052d9209fc5ac5293ae99", func := "binnacle/binnaclelaw10.ParamOrder", spec := "paramOrder", unfollowed := true, recurses := true, apart := false }
def ParamOrderSaid : Prop := paramOrderRow.holds Try.pinned (OpenSpec.ofChange paramOrderSpec)

/-- ITS FALSE NEIGHBOUR: 'it returns false'. Refute it at one input. -/
def paramOrderWrong : ChangeSpec := { name := "paramOrder", fn := fun _ => fun
  | [d1, d2, d3, d4, d5] => { results := [.lit (.bool false)], args := [d1, d2, d3, d4, d5] }
  | _ => none }
def ParamOrderWrongFalsely : Prop := paramOrderRow.holds Try.pinned (OpenSpec.ofChange paramOrderWrong)

/-- 'binnaclelaw10.ParamAny': WHATEVER THE INPUT: true; the input reads as it did. -/
def paramAnySpec : ChangeSpec := { name := "paramAny", fn := fun _ => fun
  | [d1, d2] => { results := [.lit (.bool true)], args := [d1, d2] }
  | _ => none }
def paramAnyRow : OpenClaim := { program := "ytkjdkeolkigibaa", sum := "aee671e83b61fdbfb4c86dd85374a406b2a041135cc052d9209fc5ac5293ae99", func := "binnacle/binnaclelaw10.ParamAny", spec := "paramAny", unfollowed := true, recurses := true, apart := false }
def ParamAnySaid : Prop := paramAnyRow.holds Try.pinned (OpenSpec.ofChange paramAnySpec)

/-- ITS FALSE NEIGHBOUR: 'it returns false'. Refute it at one input. -/
def paramAnyWrong : ChangeSpec := { name := "paramAny", fn := fun _ => fun
  | [d1, d2] => { results := [.lit (.bool false)], args := [d1, d2] }
  | _ => none }
def ParamAnyWrongFalsely : Prop := paramAnyRow.holds Try.pinned (OpenSpec.ofChange paramAnyWrong)

/-- 'binnaclelaw09.HeaderBack': WHATEVER THE INPUT: true; the input reads as it did. -/
def headerBackSpec : ChangeSpec := { name := "headerBack", fn := fun _ => fun
  | [d1, d2, d3] => { results := [.lit (.bool true)], args := [d1, d2, d3] }
  | _ => none }
def headerBackRow : OpenClaim := { program := "ytkjdkeolkigibaa", sum := "aee671e83b61fdbfb4c86dd85374a406b2a041135cc052d9209fc5ac5293ae99", func := "binnacle/binnaclelaw09.HeaderBack", spec := "headerBack", apart := false }
def HeaderBackSaid : Prop := headerBackRow.holds Try.pinned (OpenSpec.ofChange headerBackSpec)

/-- ITS FALSE NEIGHBOUR: 'it returns false'. Refute it at one input. -/
def headerBackWrong : ChangeSpec := { name := "headerBack", fn := fun _ => fun
  | [d1, d2, d3] => { results := [.lit (.bool false)], args := [d1, d2, d3] }
  | _ => none }
def HeaderBackWrongFalsely : Prop := headerBackRow.holds Try.pinned (OpenSpec.ofChange headerBackWrong)

/-- 'binnaclelaw09.HeaderAny': WHATEVER THE INPUT: true; the input reads as it did. -/
def headerAnySpec : ChangeSpec := { name := "headerAny", fn := fun _ => fun
  | [d1, d2, d3] => { results := [.lit (.bool true)], args := [d1, d2, d3] }
  | _ => none }
def headerAnyRow : OpenClaim := { program := "ytkjdkeolkigibaa", sum := "aee671e83b61fdbfb4c86dd85374a406b2a041135cc052d9209fc5ac5293ae99", func := "binnacle/binnaclelaw09.HeaderAny", spec := "headerAny", apart := false }
def HeaderAnySaid : Prop := headerAnyRow.holds Try.pinned (OpenSpec.ofChange headerAnySpec)

/-- ITS FALSE NEIGHBOUR: 'it returns false'. Refute it at one input. -/
def headerAnyWrong : ChangeSpec := { name := "headerAny", fn := fun _ => fun
  | [d1, d2, d3] => { results := [.lit (.bool false)], args := [d1, d2, d3] }
  | _ => none }
def HeaderAnyWrongFalsely : Prop := headerAnyRow.holds Try.pinned (OpenSpec.ofChange headerAnyWrong)

/-- 'binnaclelaw13.HandBytes': WHATEVER THE INPUT: true; the input reads as it did. -/
def handBytesSpec : ChangeSpec := { name := "handBytes", fn := fun _ => fun
  | [d1, d2, d3, d4] => { results := [.lit (.bool true)], args := [d1, d2, d3, d4] }
  | _ => none }
def handBytesRow : OpenClaim := { program := "ytkjdkeolkigibaa", sum := "aee671e83b61fdbfb4c86dd85374a406b2a041135cc052d9209fc5ac5293ae99", func := "binnacle/binnaclelaw13.HandBytes", spec := "handBytes", inPlace := ["sync/atomic.LoadUint32", "(*internal/sync.Mutex).Lock", "internal/race.Disable", "sync/atomic.CompareAndSwapInt32", "internal/race.Enable", "internal/race.Acquire", "(*internal/sync.Mutex).lockSlow", "internal/sync.runtime_canSpin", "internal/sync.runtime_doSpin", "internal/sync.throw", "internal/sync.runtime_nanotime", "internal/sync.runtime_SemacquireMutex", "sync/atomic.AddInt32", "(*internal/sync.Mutex).Unlock", "internal/race.ReleaseMerge", "(*internal/sync.Mutex).unlockSlow", "internal/sync.fatal", "internal/sync.runtime_Semrelease", "sync/atomic.StoreUint32"], unfollowed := true, recurses := true, apart := false }
def HandBytesSaid : Prop := handBytesRow.holds Try.pinned (OpenSpec.ofChange handBytesSpec)

/-- ITS FALSE NEIGHBOUR: 'it returns false'. Refute it at one input. -/
def handBytesWrong : ChangeSpec := { name := "handBytes", fn := fun _ => fun
  | [d1, d2, d3, d4] => { results := [.lit (.bool false)], args := [d1, d2, d3, d4] }
  | _ => none }
def HandBytesWrongFalsely : Prop := handBytesRow.holds Try.pinned (OpenSpec.ofChange handBytesWrong)

/-- 'binnaclelaw13.HandAny': WHATEVER THE INPUT: true; the input reads as it did. -/
def handAnySpec : ChangeSpec := { name := "handAny", fn := fun _ => fun
  | [d1, d2] => { results := [.lit (.bool true)], args := [d1, d2] }
  | _ => none }
def handAnyRow : OpenClaim := { program := "ytkjdkeolkigibaa", sum := "aee671e83b61fdbfb4c86dd85374a406b2a041135cc052d9209fc5ac5293ae99", func := "binnacle/binnaclelaw13.HandAny", spec := "handAny", inPlace := ["sync/atomic.LoadUint32", "(*internal/sync.Mutex).Lock", "internal/race.Disable", "sync/atomic.CompareAndSwapInt32", "internal/race.Enable", "internal/race.Acquire", "(*internal/sync.Mutex).lockSlow", "internal/sync.runtime_canSpin", "internal/sync.runtime_doSpin", "internal/sync.throw", "internal/sync.runtime_nanotime", "internal/sync.runtime_SemacquireMutex", "sync/atomic.AddInt32", "(*internal/sync.Mutex).Unlock", "internal/race.ReleaseMerge", "(*internal/sync.Mutex).unlockSlow", "internal/sync.fatal", "internal/sync.runtime_Semrelease", "sync/atomic.StoreUint32"], unfollowed := true, recurses := true, apart := false }
def HandAnySaid : Prop := handAnyRow.holds Try.pinned (OpenSpec.ofChange handAnySpec)

/-- ITS FALSE NEIGHBOUR: 'it returns false'. Refute it at one input. -/
def handAnyWrong : ChangeSpec := { name := "handAny", fn := fun _ => fun
  | [d1, d2] => { results := [.lit (.bool false)], args := [d1, d2] }
  | _ => none }
def HandAnyWrongFalsely : Prop := handAnyRow.holds Try.pinned (OpenSpec.ofChange handAnyWrong)

/-- 'binnaclelaw13.HandTalks': WHATEVER THE INPUT: true; the input reads as it did. -/
def handTalksSpec : ChangeSpec := { name := "handTalks", fn := fun _ => fun
  | [d1, d2, d3] => { results := [.lit (.bool true)], args := [d1, d2, d3] }
  | _ => none }
def handTalksRow : OpenClaim := { program := "ytkjdkeolkigibaa", sum := "aee671e83b61fdbfb4c86dd85374a406b2a041135cc052d9209fc5ac5293ae99", func := "binnacle/binnaclelaw13.HandTalks", spec := "handTalks", inPlace := ["sync/atomic.LoadUint32", "(*internal/sync.Mutex).Lock", "internal/race.Disable", "sync/atomic.CompareAndSwapInt32", "internal/race.Enable", "internal/race.Acquire", "(*internal/sync.Mutex).lockSlow", "internal/sync.runtime_canSpin", "internal/sync.runtime_doSpin", "internal/sync.throw", "internal/sync.runtime_nanotime", "internal/sync.runtime_SemacquireMutex", "sync/atomic.AddInt32", "(*internal/sync.Mutex).Unlock", "internal/race.ReleaseMerge", "(*internal/sync.Mutex).unlockSlow", "internal/sync.fatal", "internal/sync.runtime_Semrelease", "sync/atomic.StoreUint32"], unfollowed := true, recurses := true, apart := false }
def HandTalksSaid : Prop := handTalksRow.holds Try.pinned (OpenSpec.ofChange handTalksSpec)

/-- ITS FALSE NEIGHBOUR: 'it returns false'. Refute it at one input. -/
def handTalksWrong : ChangeSpec := { name := "handTalks", fn := fun _ => fun
  | [d1, d2, d3] => { results := [.lit (.bool false)], args := [d1, d2, d3] }
  | _ => none }
def HandTalksWrongFalsely : Prop := handTalksRow.holds Try.pinned (OpenSpec.ofChange handTalksWrong)

/- THE SECOND FORM. 'bulk': how many values and letters a reading holds, each counted each time it is reached (what is shared counts as often as it is met; a slice's spare places count too). A statement '..UptoSaid' is the law's where the arguments, and the package variables that the reading takes, are together of bulk at most 1048576: NARROWER than '..Said'. Prove '..Said' where nothing that the law and all that it calls make is longer than what came in: it says more and counts as full. Else prove '..UptoSaid'. A law counts once. -/
mutual
def uptoBulk {H : Type} : DataW H → Nat
  | .lit (.string bytes) => bytes.length + 1
  | .lit _ => 1
  | .nil => 1
  | .ptr d => uptoBulk d + 1
  | .slice elems spare => uptoBulkAll elems + uptoBulkAll spare + 1
  | .agg parts => uptoBulkAll parts + 1
  | .iface _ d => uptoBulk d + 1
  | .map entries => uptoBulkEntries entries + 1
  | .held _ => 1
def uptoBulkAll {H : Type} : List (DataW H) → Nat
  | [] => 0
  | d :: r => uptoBulk d + uptoBulkAll r
def uptoBulkEntries {H : Type} : List (Lit × DataW H) → Nat
  | [] => 0
  | x :: r => uptoBulkEntry x + uptoBulkEntries r
def uptoBulkEntry {H : Type} : Lit × DataW H → Nat
  | (.string bytes, d) => bytes.length + uptoBulk d + 1
  | (_, d) => uptoBulk d + 1
 end
def uptoSmall : (H : Type) → List (DataW H) → Bool := fun _ ds => decide (uptoBulkAll ds ≤ 1048576)
def OpenSpec.upto (s : _root_.Go.ChangeSpec) : _root_.Go.OpenSpec := { _root_.Go.OpenSpec.ofChange s with cond := some uptoSmall }

/-- 'binnaclelaw09.HeaderPuts', WHERE WHAT IT READS IS OF BULK AT MOST 1048576: true; the input reads as it did. -/
def headerPutsUptoRow : OpenClaim := { program := "ytkjdkeolkigibaa", sum := "aee671e83b61fdbfb4c86dd85374a406b2a041135cc052d9209fc5ac5293ae99", func := "binnacle/binnaclelaw09.HeaderPuts", spec := "headerPuts", apart := false, narrowed := true }
def HeaderPutsUptoSaid : Prop := headerPutsUptoRow.holds Try.pinned (OpenSpec.upto headerPutsSpec)

/-- 'binnaclelaw10.ParamBack', WHERE WHAT IT READS IS OF BULK AT MOST 1048576: true; the input reads as it did. -/
def paramBackUptoRow : OpenClaim := { program := "ytkjdkeolkigibaa", sum := "aee671e83b61fdbfb4c86dd85374a406b2a041135cc052d9209fc5ac5293ae99", func := "binnacle/binnaclelaw10.ParamBack", spec := "paramBack", unfollowed := true, recurses := true, apart := false, narrowed := true }
def ParamBackUptoSaid : Prop := paramBackUptoRow.holds Try.pinned (OpenSpec.upto paramBackSpec)

/-- 'binnaclelaw10.ParamOrder', WHERE WHAT IT READS IS OF BULK AT MOST 1048576: true; the input reads as it did. -/
def paramOrderUptoRow : OpenClaim := { program := "ytkjdkeolkigibaa", sum := "aee671e83b61fdbfb4c86dd85374a406b2a041135cc052d9209fc5ac5293ae99", func := "binnacle/binnaclelaw10.ParamOrder", spec := "paramOrder", unfollowed := true, recurses := true, apart := false, narrowed := true }
def ParamOrderUptoSaid : Prop := paramOrderUptoRow.holds Try.pinned (OpenSpec.upto paramOrderSpec)

/-- 'binnaclelaw10.ParamAny', WHERE WHAT IT READS IS OF BULK AT MOST 1048576: true; the input reads as it did. -/
def paramAnyUptoRow : OpenClaim := { program := "ytkjdkeolkigibaa", sum := "aee671e83b61fdbfb4c86dd85374a406b2a041135cc052d9209fc5ac5293ae99", func := "binnacle/binnaclelaw10.ParamAny", spec := "paramAny", unfollowed := true, recurses := true, apart := false, narrowed := true }
def ParamAnyUptoSaid : Prop := paramAnyUptoRow.holds Try.pinned (OpenSpec.upto paramAnySpec)

/-- 'binnaclelaw09.HeaderBack', WHERE WHAT IT READS IS OF BULK AT MOST 1048576: true; the input reads as it did. -/
def headerBackUptoRow : OpenClaim := { program := "ytkjdkeolkigibaa", sum := "aee671e83b61fdbfb4c86dd85374a406b2a041135cc052d9209fc5ac5293ae99", func := "binnacle/binnaclelaw09.HeaderBack", spec := "headerBack", apart := false, narrowed := true }
def HeaderBackUptoSaid : Prop := headerBackUptoRow.holds Try.pinned (OpenSpec.upto headerBackSpec)

/-- 'binnaclelaw09.HeaderAny', WHERE WHAT IT READS IS OF BULK AT MOST 1048576: true; the input reads as it did. -/
def headerAnyUptoRow : OpenClaim := { program := "ytkjdkeolkigibaa", sum := "aee671e83b61fdbfb4c86dd85374a406b2a041135cc052d9209fc5ac5293ae99", func := "binnacle/binnaclelaw09.HeaderAny", spec := "headerAny", apart := false, narrowed := true }
def HeaderAnyUptoSaid : Prop := headerAnyUptoRow.holds Try.pinned (OpenSpec.upto headerAnySpec)

/-- 'binnaclelaw13.HandBytes', WHERE WHAT IT READS IS OF BULK AT MOST 1048576: true; the input reads as it did. -/
def handBytesUptoRow : OpenClaim := { program := "ytkjdkeolkigibaa", sum := "aee671e83b61fdbfb4c86dd85374a406b2a041135cc052d9209fc5ac5293ae99", func := "binnacle/binnaclelaw13.HandBytes", spec := "handBytes", inPlace := ["sync/atomic.LoadUint32", "(*internal/sync.Mutex).Lock", "internal/race.Disable", "sync/atomic.CompareAndSwapInt32", "internal/race.Enable", "internal/race.Acquire", "(*internal/sync.Mutex).lockSlow", "internal/sync.runtime_canSpin", "internal/sync.runtime_doSpin", "internal/sync.throw", "internal/sync.runtime_nanotime", "internal/sync.runtime_SemacquireMutex", "sync/atomic.AddInt32", "(*internal/sync.Mutex).Unlock", "internal/race.ReleaseMerge", "(*internal/sync.Mutex).unlockSlow", "internal/sync.fatal", "internal/sync.runtime_Semrelease", "sync/atomic.StoreUint32"], unfollowed := true, recurses := true, apart := false, narrowed := true }
def HandBytesUptoSaid : Prop := handBytesUptoRow.holds Try.pinned (OpenSpec.upto handBytesSpec)

/-- 'binnaclelaw13.HandAny', WHERE WHAT IT READS IS OF BULK AT MOST 1048576: true; the input reads as it did. -/
def handAnyUptoRow : OpenClaim := { program := "ytkjdkeolkigibaa", sum := "aee671e83b61fdbfb4c86dd85374a406b2a041135cc052d9209fc5ac5293ae99", func := "binnacle/binnaclelaw13.HandAny", spec := "handAny", inPlace := ["sync/atomic.LoadUint32", "(*internal/sync.Mutex).Lock", "internal/race.Disable", "sync/atomic.CompareAndSwapInt32", "internal/race.Enable", "internal/race.Acquire", "(*internal/sync.Mutex).lockSlow", "internal/sync.runtime_canSpin", "internal/sync.runtime_doSpin", "internal/sync.throw", "internal/sync.runtime_nanotime", "internal/sync.runtime_SemacquireMutex", "sync/atomic.AddInt32", "(*internal/sync.Mutex).Unlock", "internal/race.ReleaseMerge", "(*internal/sync.Mutex).unlockSlow", "internal/sync.fatal", "internal/sync.runtime_Semrelease", "sync/atomic.StoreUint32"], unfollowed := true, recurses := true, apart := false, narrowed := true }
def HandAnyUptoSaid : Prop := handAnyUptoRow.holds Try.pinned (OpenSpec.upto handAnySpec)

/-- 'binnaclelaw13.HandTalks', WHERE WHAT IT READS IS OF BULK AT MOST 1048576: true; the input reads as it did. -/
def handTalksUptoRow : OpenClaim := { program := "ytkjdkeolkigibaa", sum := "aee671e83b61fdbfb4c86dd85374a406b2a041135cc052d9209fc5ac5293ae99", func := "binnacle/binnaclelaw13.HandTalks", spec := "handTalks", inPlace := ["sync/atomic.LoadUint32", "(*internal/sync.Mutex).Lock", "internal/race.Disable", "sync/atomic.CompareAndSwapInt32", "internal/race.Enable", "internal/race.Acquire", "(*internal/sync.Mutex).lockSlow", "internal/sync.runtime_canSpin", "internal/sync.runtime_doSpin", "internal/sync.throw", "internal/sync.runtime_nanotime", "internal/sync.runtime_SemacquireMutex", "sync/atomic.AddInt32", "(*internal/sync.Mutex).Unlock", "internal/race.ReleaseMerge", "(*internal/sync.Mutex).unlockSlow", "internal/sync.fatal", "internal/sync.runtime_Semrelease", "sync/atomic.StoreUint32"], unfollowed := true, recurses := true, apart := false, narrowed := true }
def HandTalksUptoSaid : Prop := handTalksUptoRow.holds Try.pinned (OpenSpec.upto handTalksSpec)

end Rows
end Go.Proofs.Ytkjdkeolkigibaa
