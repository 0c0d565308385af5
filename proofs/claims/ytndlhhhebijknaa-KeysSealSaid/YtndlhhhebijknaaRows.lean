/-
  No cell of these rows narrows 'for every input' (looked for: loops, veiled, ifaces, maps, wideKeys, modest, calm, conditions, laid).
  DERIVED. THE GIVEN ROWS OF THIS SEAT. 12 by the template 'for every input the law returns true; each argument reads behind the call as it read before'; 0 by the template 'total and deterministic' (their statements: YtndlhhhebijknaaTotals.lean).
  GIVEN WITH THE SEED: the statements are not yours to turn. If you find one false, say at which input.
  Laid BY PROGRAM, IN A SANDBOX (cutbox-rows.mjs): the forced cells as the released guide's own fill.sh prints them over the translation fe3f32ad067f3e58… (all of the seat's roots in one cut). By AI agents, Wed Nov 11 2026. No macro, syntax, notation, axiom, sorry.
-/
import Derived.Test.YtndlhhhebijknaaChecked
import GoSem.Claim
import GoSem.ClaimJoined
import GoSem.ClaimMapViews
import Derived.JoinedTies
import Derived.KernelRfl
namespace Go.Proofs.Ytndlhhhebijknaa
/- THE CELL 'sum', in the pinned program and in every row, IS THE sha256 OF THE DUMP (.gsa) THAT YtndlhhhebijknaaProg.lean LOADS. Nothing in Lean hashes anything: it is a label: what it is worth is what the hold of that sum in a sandbox is worth. -/
noncomputable def Try.pinned : Pinned := { name := "ytndlhhhebijknaa", sum := "fe3f32ad067f3e58510809215b867b1057e9dc46630db73630e4c013a59b3b56", checked := Try.checked }
namespace Rows
def none {H : Type} : Left H := { results := [], args := [] }

/-- 'binnaclelaw03.ShaSums': WHATEVER THE INPUT: true; the input reads as it did. -/
def shaSumsSpec : ChangeSpec := { name := "shaSums", fn := fun _ => fun
  | [d1, d2, d3] => { results := [.lit (.bool true)], args := [d1, d2, d3] }
  | _ => none }
def shaSumsRow : OpenClaim := { program := "ytndlhhhebijknaa", sum := "fe3f32ad067f3e58510809215b867b1057e9dc46630db73630e4c013a59b3b56", func := "binnacle/binnaclelaw03.ShaSums", spec := "shaSums", inPlace := ["sync/atomic.LoadUint32", "(*internal/sync.Mutex).Lock", "internal/race.Disable", "sync/atomic.CompareAndSwapInt32", "internal/race.Enable", "internal/race.Acquire", "(*internal/sync.Mutex).lockSlow", "internal/sync.runtime_canSpin", "internal/sync.runtime_doSpin", "internal/sync.throw", "internal/sync.runtime_nanotime", "internal/sync.runtime_SemacquireMutex", "sync/atomic.AddInt32", "(*internal/sync.Mutex).Unlock", "internal/race.ReleaseMerge", "(*internal/sync.Mutex).unlockSlow", "internal/sync.fatal", "internal/sync.runtime_Semrelease", "sync/atomic.StoreUint32"], unfollowed := true, recurses := true, apart := false }
def ShaSumsSaid : Prop := shaSumsRow.holds Try.pinned (OpenSpec.ofChange shaSumsSpec)

/-- ITS FALSE NEIGHBOUR: 'it returns false'. Refute it at one input. -/
def shaSumsWrong : ChangeSpec := { name := "shaSums", fn := fun _ => fun
  | [d1, d2, d3] => { results := [.lit (.bool false)], args := [d1, d2, d3] }
  | _ => none }
def ShaSumsWrongFalsely : Prop := shaSumsRow.holds Try.pinned (OpenSpec.ofChange shaSumsWrong)

/-- 'binnaclelaw03.ShaMarks': WHATEVER THE INPUT: true; the input reads as it did. -/
def shaMarksSpec : ChangeSpec := { name := "shaMarks", fn := fun _ => fun
  | [d1, d2, d3] => { results := [.lit (.bool true)], args := [d1, d2, d3] }
  | _ => none }
def shaMarksRow : OpenClaim := { program := "ytndlhhhebijknaa", sum := "fe3f32ad067f3e58510809215b867b1057e9dc46630db73630e4c013a59b3b56", func := "binnacle/binnaclelaw03.ShaMarks", spec := "shaMarks", inPlace := ["sync/atomic.LoadUint32", "(*internal/sync.Mutex).Lock", "internal/race.Disable", "sync/atomic.CompareAndSwapInt32", "internal/race.Enable", "internal/race.Acquire", "(*internal/sync.Mutex).lockSlow", "internal/sync.runtime_canSpin", "internal/sync.runtime_doSpin", "internal/sync.throw", "internal/sync.runtime_nanotime", "internal/sync.runtime_SemacquireMutex", "sync/atomic.AddInt32", "(*internal/sync.Mutex).Unlock", "internal/race.ReleaseMerge", "(*internal/sync.Mutex).unlockSlow", "internal/sync.fatal", "internal/sync.runtime_Semrelease", "sync/atomic.StoreUint32"], unfollowed := true, recurses := true, apart := false }
def ShaMarksSaid : Prop := shaMarksRow.holds Try.pinned (OpenSpec.ofChange shaMarksSpec)

/-- ITS FALSE NEIGHBOUR: 'it returns false'. Refute it at one input. -/
def shaMarksWrong : ChangeSpec := { name := "shaMarks", fn := fun _ => fun
  | [d1, d2, d3] => { results := [.lit (.bool false)], args := [d1, d2, d3] }
  | _ => none }
def ShaMarksWrongFalsely : Prop := shaMarksRow.holds Try.pinned (OpenSpec.ofChange shaMarksWrong)

/-- 'binnaclelaw03.ShaKnown': WHATEVER THE INPUT: true; the input reads as it did. -/
def shaKnownSpec : ChangeSpec := { name := "shaKnown", fn := fun _ => fun
  | [d] => { results := [.lit (.bool true)], args := [d] }
  | _ => none }
def shaKnownRow : OpenClaim := { program := "ytndlhhhebijknaa", sum := "fe3f32ad067f3e58510809215b867b1057e9dc46630db73630e4c013a59b3b56", func := "binnacle/binnaclelaw03.ShaKnown", spec := "shaKnown", inPlace := ["sync/atomic.LoadUint32", "(*internal/sync.Mutex).Lock", "internal/race.Disable", "sync/atomic.CompareAndSwapInt32", "internal/race.Enable", "internal/race.Acquire", "(*internal/sync.Mutex).lockSlow", "internal/sync.runtime_canSpin", "internal/sync.runtime_doSpin", "internal/sync.throw", "internal/sync.runtime_nanotime", "internal/sync.runtime_SemacquireMutex", "sync/atomic.AddInt32", "(*internal/sync.Mutex).Unlock", "internal/race.ReleaseMerge", "(*internal/sync.Mutex).unlockSlow", "internal/sync.fatal", "internal/sync.runtime_Semrelease", "sync/atomic.StoreUint32"], unfollowed := true, recurses := true, apart := false }
def ShaKnownSaid : Prop := shaKnownRow.holds Try.pinned (OpenSpec.ofChange shaKnownSpec)

/-- ITS FALSE NEIGHBOUR: 'it returns false'. Refute it at one input. -/
def shaKnownWrong : ChangeSpec := { name := "shaKnown", fn := fun _ => fun
  | [d] => { results := [.lit (.bool false)], args := [d] }
  | _ => none }
def ShaKnownWrongFalsely : Prop := shaKnownRow.holds Try.pinned (OpenSpec.ofChange shaKnownWrong)

/-- 'binnaclelaw04.KdfExpands': WHATEVER THE INPUT: true; the input reads as it did. -/
def kdfExpandsSpec : ChangeSpec := { name := "kdfExpands", fn := fun _ => fun
  | [d1, d2, d3, d4] => { results := [.lit (.bool true)], args := [d1, d2, d3, d4] }
  | _ => none }
def kdfExpandsRow : OpenClaim := { program := "ytndlhhhebijknaa", sum := "fe3f32ad067f3e58510809215b867b1057e9dc46630db73630e4c013a59b3b56", func := "binnacle/binnaclelaw04.KdfExpands", spec := "kdfExpands", inPlace := ["sync/atomic.LoadUint32", "(*internal/sync.Mutex).Lock", "internal/race.Disable", "sync/atomic.CompareAndSwapInt32", "internal/race.Enable", "internal/race.Acquire", "(*internal/sync.Mutex).lockSlow", "internal/sync.runtime_canSpin", "internal/sync.runtime_doSpin", "internal/sync.throw", "internal/sync.runtime_nanotime", "internal/sync.runtime_SemacquireMutex", "sync/atomic.AddInt32", "(*internal/sync.Mutex).Unlock", "internal/race.ReleaseMerge", "(*internal/sync.Mutex).unlockSlow", "internal/sync.fatal", "internal/sync.runtime_Semrelease", "sync/atomic.StoreUint32"], unfollowed := true, recurses := true, apart := false }
def KdfExpandsSaid : Prop := kdfExpandsRow.holds Try.pinned (OpenSpec.ofChange kdfExpandsSpec)

/-- ITS FALSE NEIGHBOUR: 'it returns false'. Refute it at one input. -/
def kdfExpandsWrong : ChangeSpec := { name := "kdfExpands", fn := fun _ => fun
  | [d1, d2, d3, d4] => { results := [.lit (.bool false)], args := [d1, d2, d3, d4] }
  | _ => none }
def KdfExpandsWrongFalsely : Prop := kdfExpandsRow.holds Try.pinned (OpenSpec.ofChange kdfExpandsWrong)

/-- 'binnaclelaw04.KdfLabels': WHATEVER THE INPUT: true; the input reads as it did. -/
def kdfLabelsSpec : ChangeSpec := { name := "kdfLabels", fn := fun _ => fun
  | [d1, d2, d3, d4, d5] => { results := [.lit (.bool true)], args := [d1, d2, d3, d4, d5] }
  | _ => none }
def kdfLabelsRow : OpenClaim := { program := "ytndlhhhebijknaa", sum := "fe3f32ad067f3e58510809215b867b1057e9dc46630db73630e4c013a59b3b56", func := "binnacle/binnaclelaw04.KdfLabels", spec := "kdfLabels", inPlace := ["sync/atomic.LoadUint32", "(*internal/sync.Mutex).Lock", "internal/race.Disable", "sync/atomic.CompareAndSwapInt32", "internal/race.Enable", "internal/race.Acquire", "(*internal/sync.Mutex).lockSlow", "internal/sync.runtime_canSpin", "internal/sync.runtime_doSpin", "internal/sync.throw", "internal/sync.runtime_nanotime", "internal/sync.runtime_SemacquireMutex", "sync/atomic.AddInt32", "(*internal/sync.Mutex).Unlock", "internal/race.ReleaseMerge", "(*internal/sync.Mutex).unlockSlow", "internal/sync.fatal", "internal/sync.runtime_Semrelease", "sync/atomic.StoreUint32"], unfollowed := true, recurses := true, apart := false }
def KdfLabelsSaid : Prop := kdfLabelsRow.holds Try.pinned (OpenSpec.ofChange kdfLabelsSpec)

/-- ITS FALSE NEIGHBOUR: 'it returns false'. Refute it at one input. -/
def kdfLabelsWrong : ChangeSpec := { name := "kdfLabels", fn := fun _ => fun
  | [d1, d2, d3, d4, d5] => { results := [.lit (.bool false)], args := [d1, d2, d3, d4, d5] }
  | _ => none }
def KdfLabelsWrongFalsely : Prop := kdfLabelsRow.holds Try.pinned (OpenSpec.ofChange kdfLabelsWrong)

/-- 'binnaclelaw04.KdfDerives': WHATEVER THE INPUT: true; the input reads as it did. -/
def kdfDerivesSpec : ChangeSpec := { name := "kdfDerives", fn := fun _ => fun
  | [d1, d2, d3, d4, d5] => { results := [.lit (.bool true)], args := [d1, d2, d3, d4, d5] }
  | _ => none }
def kdfDerivesRow : OpenClaim := { program := "ytndlhhhebijknaa", sum := "fe3f32ad067f3e58510809215b867b1057e9dc46630db73630e4c013a59b3b56", func := "binnacle/binnaclelaw04.KdfDerives", spec := "kdfDerives", inPlace := ["sync/atomic.LoadUint32", "(*internal/sync.Mutex).Lock", "internal/race.Disable", "sync/atomic.CompareAndSwapInt32", "internal/race.Enable", "internal/race.Acquire", "(*internal/sync.Mutex).lockSlow", "internal/sync.runtime_canSpin", "internal/sync.runtime_doSpin", "internal/sync.throw", "internal/sync.runtime_nanotime", "internal/sync.runtime_SemacquireMutex", "sync/atomic.AddInt32", "(*internal/sync.Mutex).Unlock", "internal/race.ReleaseMerge", "(*internal/sync.Mutex).unlockSlow", "internal/sync.fatal", "internal/sync.runtime_Semrelease", "sync/atomic.StoreUint32"], unfollowed := true, recurses := true, apart := false }
def KdfDerivesSaid : Prop := kdfDerivesRow.holds Try.pinned (OpenSpec.ofChange kdfDerivesSpec)

/-- ITS FALSE NEIGHBOUR: 'it returns false'. Refute it at one input. -/
def kdfDerivesWrong : ChangeSpec := { name := "kdfDerives", fn := fun _ => fun
  | [d1, d2, d3, d4, d5] => { results := [.lit (.bool false)], args := [d1, d2, d3, d4, d5] }
  | _ => none }
def KdfDerivesWrongFalsely : Prop := kdfDerivesRow.holds Try.pinned (OpenSpec.ofChange kdfDerivesWrong)

/-- 'binnaclelaw04.KdfNone': WHATEVER THE INPUT: true; the input reads as it did. -/
def kdfNoneSpec : ChangeSpec := { name := "kdfNone", fn := fun _ => fun
  | [d1, d2, d3] => { results := [.lit (.bool true)], args := [d1, d2, d3] }
  | _ => none }
def kdfNoneRow : OpenClaim := { program := "ytndlhhhebijknaa", sum := "fe3f32ad067f3e58510809215b867b1057e9dc46630db73630e4c013a59b3b56", func := "binnacle/binnaclelaw04.KdfNone", spec := "kdfNone", inPlace := ["sync/atomic.LoadUint32", "(*internal/sync.Mutex).Lock", "internal/race.Disable", "sync/atomic.CompareAndSwapInt32", "internal/race.Enable", "internal/race.Acquire", "(*internal/sync.Mutex).lockSlow", "internal/sync.runtime_canSpin", "internal/sync.runtime_doSpin", "internal/sync.throw", "internal/sync.runtime_nanotime", "internal/sync.runtime_SemacquireMutex", "sync/atomic.AddInt32", "(*internal/sync.Mutex).Unlock", "internal/race.ReleaseMerge", "(*internal/sync.Mutex).unlockSlow", "internal/sync.fatal", "internal/sync.runtime_Semrelease", "sync/atomic.StoreUint32"], unfollowed := true, recurses := true, apart := false }
def KdfNoneSaid : Prop := kdfNoneRow.holds Try.pinned (OpenSpec.ofChange kdfNoneSpec)

/-- ITS FALSE NEIGHBOUR: 'it returns false'. Refute it at one input. -/
def kdfNoneWrong : ChangeSpec := { name := "kdfNone", fn := fun _ => fun
  | [d1, d2, d3] => { results := [.lit (.bool false)], args := [d1, d2, d3] }
  | _ => none }
def KdfNoneWrongFalsely : Prop := kdfNoneRow.holds Try.pinned (OpenSpec.ofChange kdfNoneWrong)

/-- 'binnaclelaw06.GcmSeals': WHATEVER THE INPUT: true; the input reads as it did. -/
def gcmSealsSpec : ChangeSpec := { name := "gcmSeals", fn := fun _ => fun
  | [d1, d2, d3, d4] => { results := [.lit (.bool true)], args := [d1, d2, d3, d4] }
  | _ => none }
def gcmSealsRow : OpenClaim := { program := "ytndlhhhebijknaa", sum := "fe3f32ad067f3e58510809215b867b1057e9dc46630db73630e4c013a59b3b56", func := "binnacle/binnaclelaw06.GcmSeals", spec := "gcmSeals", inPlace := ["sync/atomic.LoadUint32", "(*internal/sync.Mutex).Lock", "internal/race.Disable", "sync/atomic.CompareAndSwapInt32", "internal/race.Enable", "internal/race.Acquire", "(*internal/sync.Mutex).lockSlow", "internal/sync.runtime_canSpin", "internal/sync.runtime_doSpin", "internal/sync.throw", "internal/sync.runtime_nanotime", "internal/sync.runtime_SemacquireMutex", "sync/atomic.AddInt32", "(*internal/sync.Mutex).Unlock", "internal/race.ReleaseMerge", "(*internal/sync.Mutex).unlockSlow", "internal/sync.fatal", "internal/sync.runtime_Semrelease", "sync/atomic.StoreUint32", "sync/atomic.AddInt64"], unfollowed := true, recurses := true, apart := false }
def GcmSealsSaid : Prop := gcmSealsRow.holds Try.pinned (OpenSpec.ofChange gcmSealsSpec)

/-- ITS FALSE NEIGHBOUR: 'it returns false'. Refute it at one input. -/
def gcmSealsWrong : ChangeSpec := { name := "gcmSeals", fn := fun _ => fun
  | [d1, d2, d3, d4] => { results := [.lit (.bool false)], args := [d1, d2, d3, d4] }
  | _ => none }
def GcmSealsWrongFalsely : Prop := gcmSealsRow.holds Try.pinned (OpenSpec.ofChange gcmSealsWrong)

/-- 'binnaclelaw06.GcmAny': WHATEVER THE INPUT: true; the input reads as it did. -/
def gcmAnySpec : ChangeSpec := { name := "gcmAny", fn := fun _ => fun
  | [d1, d2, d3, d4] => { results := [.lit (.bool true)], args := [d1, d2, d3, d4] }
  | _ => none }
def gcmAnyRow : OpenClaim := { program := "ytndlhhhebijknaa", sum := "fe3f32ad067f3e58510809215b867b1057e9dc46630db73630e4c013a59b3b56", func := "binnacle/binnaclelaw06.GcmAny", spec := "gcmAny", inPlace := ["sync/atomic.LoadUint32", "(*internal/sync.Mutex).Lock", "internal/race.Disable", "sync/atomic.CompareAndSwapInt32", "internal/race.Enable", "internal/race.Acquire", "(*internal/sync.Mutex).lockSlow", "internal/sync.runtime_canSpin", "internal/sync.runtime_doSpin", "internal/sync.throw", "internal/sync.runtime_nanotime", "internal/sync.runtime_SemacquireMutex", "sync/atomic.AddInt32", "(*internal/sync.Mutex).Unlock", "internal/race.ReleaseMerge", "(*internal/sync.Mutex).unlockSlow", "internal/sync.fatal", "internal/sync.runtime_Semrelease", "sync/atomic.StoreUint32", "sync/atomic.AddInt64"], unfollowed := true, recurses := true, apart := false }
def GcmAnySaid : Prop := gcmAnyRow.holds Try.pinned (OpenSpec.ofChange gcmAnySpec)

/-- ITS FALSE NEIGHBOUR: 'it returns false'. Refute it at one input. -/
def gcmAnyWrong : ChangeSpec := { name := "gcmAny", fn := fun _ => fun
  | [d1, d2, d3, d4] => { results := [.lit (.bool false)], args := [d1, d2, d3, d4] }
  | _ => none }
def GcmAnyWrongFalsely : Prop := gcmAnyRow.holds Try.pinned (OpenSpec.ofChange gcmAnyWrong)

/-- 'binnaclelaw11.KeysInitial': WHATEVER THE INPUT: true; the input reads as it did. -/
def keysInitialSpec : ChangeSpec := { name := "keysInitial", fn := fun _ => fun
  | [d] => { results := [.lit (.bool true)], args := [d] }
  | _ => none }
def keysInitialRow : OpenClaim := { program := "ytndlhhhebijknaa", sum := "fe3f32ad067f3e58510809215b867b1057e9dc46630db73630e4c013a59b3b56", func := "binnacle/binnaclelaw11.KeysInitial", spec := "keysInitial", inPlace := ["sync/atomic.LoadUint32", "(*internal/sync.Mutex).Lock", "internal/race.Disable", "sync/atomic.CompareAndSwapInt32", "internal/race.Enable", "internal/race.Acquire", "(*internal/sync.Mutex).lockSlow", "internal/sync.runtime_canSpin", "internal/sync.runtime_doSpin", "internal/sync.throw", "internal/sync.runtime_nanotime", "internal/sync.runtime_SemacquireMutex", "sync/atomic.AddInt32", "(*internal/sync.Mutex).Unlock", "internal/race.ReleaseMerge", "(*internal/sync.Mutex).unlockSlow", "internal/sync.fatal", "internal/sync.runtime_Semrelease", "sync/atomic.StoreUint32", "sync/atomic.AddInt64"], unfollowed := true, recurses := true, apart := false }
def KeysInitialSaid : Prop := keysInitialRow.holds Try.pinned (OpenSpec.ofChange keysInitialSpec)

/-- ITS FALSE NEIGHBOUR: 'it returns false'. Refute it at one input. -/
def keysInitialWrong : ChangeSpec := { name := "keysInitial", fn := fun _ => fun
  | [d] => { results := [.lit (.bool false)], args := [d] }
  | _ => none }
def KeysInitialWrongFalsely : Prop := keysInitialRow.holds Try.pinned (OpenSpec.ofChange keysInitialWrong)

/-- 'binnaclelaw11.KeysSeal': WHATEVER THE INPUT: true; the input reads as it did. -/
def keysSealSpec : ChangeSpec := { name := "keysSeal", fn := fun _ => fun
  | [d1, d2, d3, d4] => { results := [.lit (.bool true)], args := [d1, d2, d3, d4] }
  | _ => none }
def keysSealRow : OpenClaim := { program := "ytndlhhhebijknaa", sum := "fe3f32ad067f3e58510809215b867b1057e9dc46630db73630e4c013a59b3b56", func := "binnacle/binnaclelaw11.KeysSeal", spec := "keysSeal", inPlace := ["sync/atomic.LoadUint32", "(*internal/sync.Mutex).Lock", "internal/race.Disable", "sync/atomic.CompareAndSwapInt32", "internal/race.Enable", "internal/race.Acquire", "(*internal/sync.Mutex).lockSlow", "internal/sync.runtime_canSpin", "internal/sync.runtime_doSpin", "internal/sync.throw", "internal/sync.runtime_nanotime", "internal/sync.runtime_SemacquireMutex", "sync/atomic.AddInt32", "(*internal/sync.Mutex).Unlock", "internal/race.ReleaseMerge", "(*internal/sync.Mutex).unlockSlow", "internal/sync.fatal", "internal/sync.runtime_Semrelease", "sync/atomic.StoreUint32", "sync/atomic.AddInt64"], unfollowed := true, recurses := true, apart := false }
def KeysSealSaid : Prop := keysSealRow.holds Try.pinned (OpenSpec.ofChange keysSealSpec)

/-- ITS FALSE NEIGHBOUR: 'it returns false'. Refute it at one input. -/
def keysSealWrong : ChangeSpec := { name := "keysSeal", fn := fun _ => fun
  | [d1, d2, d3, d4] => { results := [.lit (.bool false)], args := [d1, d2, d3, d4] }
  | _ => none }
def KeysSealWrongFalsely : Prop := keysSealRow.holds Try.pinned (OpenSpec.ofChange keysSealWrong)

/-- 'binnaclelaw11.KeysNone': WHATEVER THE INPUT: true; the input reads as it did. -/
def keysNoneSpec : ChangeSpec := { name := "keysNone", fn := fun _ => fun
  | [d1, d2, d3, d4] => { results := [.lit (.bool true)], args := [d1, d2, d3, d4] }
  | _ => none }
def keysNoneRow : OpenClaim := { program := "ytndlhhhebijknaa", sum := "fe3f32ad067f3e58510809215b867b1057e9dc46630db73630e4c013a59b3b56", func := "binnacle/binnaclelaw11.KeysNone", spec := "keysNone", inPlace := ["sync/atomic.LoadUint32", "(*internal/sync.Mutex).Lock", "internal/race.Disable", "sync/atomic.CompareAndSwapInt32", "internal/race.Enable", "internal/race.Acquire", "(*internal/sync.Mutex).lockSlow", "internal/sync.runtime_canSpin", "internal/sync.runtime_doSpin", "internal/sync.throw", "internal/sync.runtime_nanotime", "internal/sync.runtime_SemacquireMutex", "sync/atomic.AddInt32", "(*internal/sync.Mutex).Unlock", "internal/race.ReleaseMerge", "(*internal/sync.Mutex).unlockSlow", "internal/sync.fatal", "internal/sync.runtime_Semrelease", "sync/atomic.StoreUint32", "sync/atomic.AddInt64"], unfollowed := true, recurses := true, apart := false }
def KeysNoneSaid : Prop := keysNoneRow.holds Try.pinned (OpenSpec.ofChange keysNoneSpec)

/-- ITS FALSE NEIGHBOUR: 'it returns false'. Refute it at one input. -/
def keysNoneWrong : ChangeSpec := { name := "keysNone", fn := fun _ => fun
  | [d1, d2, d3, d4] => { results := [.lit (.bool false)], args := [d1, d2, d3, d4] }
  | _ => none }
def KeysNoneWrongFalsely : Prop := keysNoneRow.holds Try.pinned (OpenSpec.ofChange keysNoneWrong)

/- THE SECOND FORM. 'bulk': how many values and letters a reading holds, each counted each time it is reached (what is shared counts as often as it is met; a slice's spare places count too). A statement '..UptoSaid' is the law's where the arguments, and the package variables that the reading takes, are together of bulk at most 1048576: NARROWER than '..Said'. Prove '..Said' where nothing that the law and all that it calls make is longer than what came in: it says more and counts as full. Else prove '..UptoSaid'. A law counts once. -/
mutual
def uptoBulk {H : Type} : DataW H → Nat
  | .lit (.string bytes) => bytes.length + 1
  | .lit _ => 1
  | .nil => 1
  | .ptr d => uptoBulk d + 1
  | .slice elems spare => uptoBulkAll elems + uptoBulkAll spare + 1
  | .agg parts => uptoBulkAll parts + 1
  | .iface _ d => uptoBulk d + 1
  | .map entries => uptoBulkEntries entries + 1
  | .held _ => 1
def uptoBulkAll {H : Type} : List (DataW H) → Nat
  | [] => 0
  | d :: r => uptoBulk d + uptoBulkAll r
def uptoBulkEntries {H : Type} : List (Lit × DataW H) → Nat
  | [] => 0
  | x :: r => uptoBulkEntry x + uptoBulkEntries r
def uptoBulkEntry {H : Type} : Lit × DataW H → Nat
  | (.string bytes, d) => bytes.length + uptoBulk d + 1
  | (_, d) => uptoBulk d + 1
 end
def uptoSmall : (H : Type) → List (DataW H) → Bool := fun _ ds => decide (uptoBulkAll ds ≤ 1048576)
def OpenSpec.upto (s : _root_.Go.ChangeSpec) : _root_.Go.OpenSpec := { _root_.Go.OpenSpec.ofChange s with cond := some uptoSmall }

/-- 'binnaclelaw03.ShaSums', WHERE WHAT IT READS IS OF BULK AT MOST 1048576: true; the input reads as it did. -/
def shaSumsUptoRow : OpenClaim := { program := "ytndlhhhebijknaa", sum := "fe3f32ad067f3e58510809215b867b1057e9dc46630db73630e4c013a59b3b56", func := "binnacle/binnaclelaw03.ShaSums", spec := "shaSums", inPlace := ["sync/atomic.LoadUint32", "(*internal/sync.Mutex).Lock", "internal/race.Disable", "sync/atomic.CompareAndSwapInt32", "internal/race.Enable", "internal/race.Acquire", "(*internal/sync.Mutex).lockSlow", "internal/sync.runtime_canSpin", "internal/sync.runtime_doSpin", "internal/sync.throw", "internal/sync.runtime_nanotime", "internal/sync.runtime_SemacquireMutex", "sync/atomic.AddInt32", "(*internal/sync.Mutex).Unlock", "internal/race.ReleaseMerge", "(*internal/sync.Mutex).unlockSlow", "internal/sync.fatal", "internal/sync.runtime_Semrelease", "sync/atomic.StoreUint32"], unfollowed := true, recurses := true, apart := false, narrowed := true }
def ShaSumsUptoSaid : Prop := shaSumsUptoRow.holds Try.pinned (OpenSpec.upto shaSumsSpec)

/-- 'binnaclelaw03.ShaMarks', WHERE WHAT IT READS IS OF BULK AT MOST 1048576: true; the input reads as it did. -/
def shaMarksUptoRow : OpenClaim := { program := "ytndlhhhebijknaa", sum := "fe3f32ad067f3e58510809215b867b1057e9dc46630db73630e4c013a59b3b56", func := "binnacle/binnaclelaw03.ShaMarks", spec := "shaMarks", inPlace := ["sync/atomic.LoadUint32", "(*internal/sync.Mutex).Lock", "internal/race.Disable", "sync/atomic.CompareAndSwapInt32", "internal/race.Enable", "internal/race.Acquire", "(*internal/sync.Mutex).lockSlow", "internal/sync.runtime_canSpin", "internal/sync.runtime_doSpin", "internal/sync.throw", "internal/sync.runtime_nanotime", "internal/sync.runtime_SemacquireMutex", "sync/atomic.AddInt32", "(*internal/sync.Mutex).Unlock", "internal/race.ReleaseMerge", "(*internal/sync.Mutex).unlockSlow", "internal/sync.fatal", "internal/sync.runtime_Semrelease", "sync/atomic.StoreUint32"], unfollowed := true, recurses := true, apart := false, narrowed := true }
def ShaMarksUptoSaid : Prop := shaMarksUptoRow.holds Try.pinned (OpenSpec.upto shaMarksSpec)

/-- 'binnaclelaw03.ShaKnown', WHERE WHAT IT READS IS OF BULK AT MOST 1048576: true; the input reads as it did. -/
def shaKnownUptoRow : OpenClaim := { program := "ytndlhhhebijknaa", sum := "fe3f32ad067f3e58510809215b867b1057e9dc46630db73630e4c013a59b3b56", func := "binnacle/binnaclelaw03.ShaKnown", spec := "shaKnown", inPlace := ["sync/atomic.LoadUint32", "(*internal/sync.Mutex).Lock", "internal/race.Disable", "sync/atomic.CompareAndSwapInt32", "internal/race.Enable", "internal/race.Acquire", "(*internal/sync.Mutex).lockSlow", "internal/sync.runtime_canSpin", "internal/sync.runtime_doSpin", "internal/sync.throw", "internal/sync.runtime_nanotime", "internal/sync.runtime_SemacquireMutex", "sync/atomic.AddInt32", "(*internal/sync.Mutex).Unlock", "internal/race.ReleaseMerge", "(*internal/sync.Mutex).unlockSlow", "internal/sync.fatal", "internal/sync.runtime_Semrelease", "sync/atomic.StoreUint32"], unfollowed := true, recurses := true, apart := false, narrowed := true }
def ShaKnownUptoSaid : Prop := shaKnownUptoRow.holds Try.pinned (OpenSpec.upto shaKnownSpec)

/-- 'binnaclelaw04.KdfExpands', WHERE WHAT IT READS IS OF BULK AT MOST 1048576: true; the input reads as it did. -/
def kdfExpandsUptoRow : OpenClaim := { program := "ytndlhhhebijknaa", sum := "fe3f32ad067f3e58510809215b867b1057e9dc46630db73630e4c013a59b3b56", func := "binnacle/binnaclelaw04.KdfExpands", spec := "kdfExpands", inPlace := ["sync/atomic.LoadUint32", "(*internal/sync.Mutex).Lock", "internal/race.Disable", "sync/atomic.CompareAndSwapInt32", "internal/race.Enable", "internal/race.Acquire", "(*internal/sync.Mutex).lockSlow", "internal/sync.runtime_canSpin", "internal/sync.runtime_doSpin", "internal/sync.throw", "internal/sync.runtime_nanotime", "internal/sync.runtime_SemacquireMutex", "sync/atomic.AddInt32", "(*internal/sync.Mutex).Unlock", "internal/race.ReleaseMerge", "(*internal/sync.Mutex).unlockSlow", "internal/sync.fatal", "internal/sync.runtime_Semrelease", "sync/atomic.StoreUint32"], unfollowed := true, recurses := true, apart := false, narrowed := true }
def KdfExpandsUptoSaid : Prop := kdfExpandsUptoRow.holds Try.pinned (OpenSpec.upto kdfExpandsSpec)

/-- 'binnaclelaw04.KdfLabels', WHERE WHAT IT READS IS OF BULK AT MOST 1048576: true; the input reads as it did. -/
def kdfLabelsUptoRow : OpenClaim := { program := "ytndlhhhebijknaa", sum := "fe3f32ad067f3e58510809215b867b1057e9dc46630db73630e4c013a59b3b56", func := "binnacle/binnaclelaw04.KdfLabels", spec := "kdfLabels", inPlace := ["sync/atomic.LoadUint32", "(*internal/sync.Mutex).Lock", "internal/race.Disable", "sync/atomic.CompareAndSwapInt32", "internal/race.Enable", "internal/race.Acquire", "(*internal/sync.Mutex).lockSlow", "internal/sync.runtime_canSpin", "internal/sync.runtime_doSpin", "internal/sync.throw", "internal/sync.runtime_nanotime", "internal/sync.runtime_SemacquireMutex", "sync/atomic.AddInt32", "(*internal/sync.Mutex).Unlock", "internal/race.ReleaseMerge", "(*internal/sync.Mutex).unlockSlow", "internal/sync.fatal", "internal/sync.runtime_Semrelease", "sync/atomic.StoreUint32"], unfollowed := true, recurses := true, apart := false, narrowed := true }
def KdfLabelsUptoSaid : Prop := kdfLabelsUptoRow.holds Try.pinned (OpenSpec.upto kdfLabelsSpec)

/-- 'binnaclelaw04.KdfDerives', WHERE WHAT IT READS IS OF BULK AT MOST 1048576: true; the input reads as it did. -/
def kdfDerivesUptoRow : OpenClaim := { program := "ytndlhhhebijknaa", sum := "fe3f32ad067f3e58510809215b867b1057e9dc46630db73630e4c013a59b3b56", func := "binnacle/binnaclelaw04.KdfDerives", spec := "kdfDerives", inPlace := ["sync/atomic.LoadUint32", "(*internal/sync.Mutex).Lock", "internal/race.Disable", "sync/atomic.CompareAndSwapInt32", "internal/race.Enable", "internal/race.Acquire", "(*internal/sync.Mutex).lockSlow", "internal/sync.runtime_canSpin", "internal/sync.runtime_doSpin", "internal/sync.throw", "internal/sync.runtime_nanotime", "internal/sync.runtime_SemacquireMutex", "sync/atomic.AddInt32", "(*internal/sync.Mutex).Unlock", "internal/race.ReleaseMerge", "(*internal/sync.Mutex).unlockSlow", "internal/sync.fatal", "internal/sync.runtime_Semrelease", "sync/atomic.StoreUint32"], unfollowed := true, recurses := true, apart := false, narrowed := true }
def KdfDerivesUptoSaid : Prop := kdfDerivesUptoRow.holds Try.pinned (OpenSpec.upto kdfDerivesSpec)

/-- 'binnaclelaw04.KdfNone', WHERE WHAT IT READS IS OF BULK AT MOST 1048576: true; the input reads as it did. -/
def kdfNoneUptoRow : OpenClaim := { program := "ytndlhhhebijknaa", sum := "fe3f32ad067f3e58510809215b867b1057e9dc46630db73630e4c013a59b3b56", func := "binnacle/binnaclelaw04.KdfNone", spec := "kdfNone", inPlace := ["sync/atomic.LoadUint32", "(*internal/sync.Mutex).Lock", "internal/race.Disable", "sync/atomic.CompareAndSwapInt32", "internal/race.Enable", "internal/race.Acquire", "(*internal/sync.Mutex).lockSlow", "internal/sync.runtime_canSpin", "internal/sync.runtime_doSpin", "internal/sync.throw", "internal/sync.runtime_nanotime", "internal/sync.runtime_SemacquireMutex", "sync/atomic.AddInt32", "(*internal/sync.Mutex).Unlock", "internal/race.ReleaseMerge", "(*internal/sync.Mutex).unlockSlow", "internal/sync.fatal", "internal/sync.runtime_Semrelease", "sync/atomic.StoreUint32"], unfollowed := true, recurses := true, apart := false, narrowed := true }
def KdfNoneUptoSaid : Prop := kdfNoneUptoRow.holds Try.pinned (OpenSpec.upto kdfNoneSpec)

/-- 'binnaclelaw06.GcmSeals', WHERE WHAT IT READS IS OF BULK AT MOST 1048576: true; the input reads as it did. -/
def gcmSealsUptoRow : OpenClaim := { program := "ytndlhhhebijknaa", sum := "fe3f32ad067f3e58510809215b867b1057e9dc46630db73630e4c013a59b3b56", func := "binnacle/binnaclelaw06.GcmSeals", spec := "gcmSeals", inPlace := ["sync/atomic.LoadUint32", "(*internal/sync.Mutex).Lock", "internal/race.Disable", "sync/atomic.CompareAndSwapInt32", "internal/race.Enable", "internal/race.Acquire", "(*internal/sync.Mutex).lockSlow", "internal/sync.runtime_canSpin", "internal/sync.runtime_doSpin", "internal/sync.throw", "internal/sync.runtime_nanotime", "internal/sync.runtime_SemacquireMutex", "sync/atomic.AddInt32", "(*internal/sync.Mutex).Unlock", "internal/race.ReleaseMerge", "(*internal/sync.Mutex).unlockSlow", "internal/sync.fatal", "internal/sync.runtime_Semrelease", "sync/atomic.StoreUint32", "sync/atomic.AddInt64"], unfollowed := true, recurses := true, apart := false, narrowed := true }
def GcmSealsUptoSaid : Prop := gcmSealsUptoRow.holds Try.pinned (OpenSpec.upto gcmSealsSpec)

/-- 'binnaclelaw06.GcmAny', WHERE WHAT IT READS IS OF BULK AT MOST 1048576: true; the input reads as it did. -/
def gcmAnyUptoRow : OpenClaim := { program := "ytndlhhhebijknaa", sum := "fe3f32ad067f3e58510809215b867b1057e9dc46630db73630e4c013a59b3b56", func := "binnacle/binnaclelaw06.GcmAny", spec := "gcmAny", inPlace := ["sync/atomic.LoadUint32", "(*internal/sync.Mutex).Lock", "internal/race.Disable", "sync/atomic.CompareAndSwapInt32", "internal/race.Enable", "internal/race.Acquire", "(*internal/sync.Mutex).lockSlow", "internal/sync.runtime_canSpin", "internal/sync.runtime_doSpin", "internal/sync.throw", "internal/sync.runtime_nanotime", "internal/sync.runtime_SemacquireMutex", "sync/atomic.AddInt32", "(*internal/sync.Mutex).Unlock", "internal/race.ReleaseMerge", "(*internal/sync.Mutex).unlockSlow", "internal/sync.fatal", "internal/sync.runtime_Semrelease", "sync/atomic.StoreUint32", "sync/atomic.AddInt64"], unfollowed := true, recurses := true, apart := false, narrowed := true }
def GcmAnyUptoSaid : Prop := gcmAnyUptoRow.holds Try.pinned (OpenSpec.upto gcmAnySpec)

/-- 'binnaclelaw11.KeysInitial', WHERE WHAT IT READS IS OF BULK AT MOST 1048576: true; the input reads as it did. -/
def keysInitialUptoRow : OpenClaim := { program := "ytndlhhhebijknaa", sum := "fe3f32ad067f3e58510809215b867b1057e9dc46630db73630e4c013a59b3b56", func := "binnacle/binnaclelaw11.KeysInitial", spec := "keysInitial", inPlace := ["sync/atomic.LoadUint32", "(*internal/sync.Mutex).Lock", "internal/race.Disable", "sync/atomic.CompareAndSwapInt32", "internal/race.Enable", "internal/race.Acquire", "(*internal/sync.Mutex).lockSlow", "internal/sync.runtime_canSpin", "internal/sync.runtime_doSpin", "internal/sync.throw", "internal/sync.runtime_nanotime", "internal/sync.runtime_SemacquireMutex", "sync/atomic.AddInt32", "(*internal/sync.Mutex).Unlock", "internal/race.ReleaseMerge", "(*internal/sync.Mutex).unlockSlow", "internal/sync.fatal", "internal/sync.runtime_Semrelease", "sync/atomic.StoreUint32", "sync/atomic.AddInt64"], unfollowed := true, recurses := true, apart := false, narrowed := true }
def KeysInitialUptoSaid : Prop := keysInitialUptoRow.holds Try.pinned (OpenSpec.upto keysInitialSpec)

/-- 'binnaclelaw11.KeysSeal', WHERE WHAT IT READS IS OF BULK AT MOST 1048576: true; the input reads as it did. -/
def keysSealUptoRow : OpenClaim := { program := "ytndlhhhebijknaa", sum := "fe3f32ad067f3e58510809215b867b1057e9dc46630db73630e4c013a59b3b56", func := "binnacle/binnaclelaw11.KeysSeal", spec := "keysSeal", inPlace := ["sync/atomic.LoadUint32", "(*internal/sync.Mutex).Lock", "internal/race.Disable", "sync/atomic.CompareAndSwapInt32", "internal/race.Enable", "internal/race.Acquire", "(*internal/sync.Mutex).lockSlow", "internal/sync.runtime_canSpin", "internal/sync.runtime_doSpin", "internal/sync.throw", "internal/sync.runtime_nanotime", "internal/sync.runtime_SemacquireMutex", "sync/atomic.AddInt32", "(*internal/sync.Mutex).Unlock", "internal/race.ReleaseMerge", "(*internal/sync.Mutex).unlockSlow", "internal/sync.fatal", "internal/sync.runtime_Semrelease", "sync/atomic.StoreUint32", "sync/atomic.AddInt64"], unfollowed := true, recurses := true, apart := false, narrowed := true }
def KeysSealUptoSaid : Prop := keysSealUptoRow.holds Try.pinned (OpenSpec.upto keysSealSpec)

/-- 'binnaclelaw11.KeysNone', WHERE WHAT IT READS IS OF BULK AT MOST 1048576: true; the input reads as it did. -/
def keysNoneUptoRow : OpenClaim := { program := "ytndlhhhebijknaa", sum := "fe3f32ad067f3e58510809215b867b1057e9dc46630db73630e4c013a59b3b56", func := "binnacle/binnaclelaw11.KeysNone", spec := "keysNone", inPlace := ["sync/atomic.LoadUint32", "(*internal/sync.Mutex).Lock", "internal/race.Disable", "sync/atomic.CompareAndSwapInt32", "internal/race.Enable", "internal/race.Acquire", "(*internal/sync.Mutex).lockSlow", "internal/sync.runtime_canSpin", "internal/sync.runtime_doSpin", "internal/sync.throw", "internal/sync.runtime_nanotime", "internal/sync.runtime_SemacquireMutex", "sync/atomic.AddInt32", "(*internal/sync.Mutex).Unlock", "internal/race.ReleaseMerge", "(*internal/sync.Mutex).unlockSlow", "internal/sync.fatal", "internal/sync.runtime_Semrelease", "sync/atomic.StoreUint32", "sync/atomic.AddInt64"], unfollowed := true, recurses := true, apart := false, narrowed := true }
def KeysNoneUptoSaid : Prop := keysNoneUptoRow.holds Try.pinned (OpenSpec.upto keysNoneSpec)

end Rows
end Go.Proofs.Ytndlhhhebijknaa
