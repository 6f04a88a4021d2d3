/-
  No cell of these rows narrows 'for every input' (looked for: loops, veiled, ifaces, maps, wideKeys, modest, calm, conditions, laid).
  DERIVED. THE GIVEN ROWS OF THIS SEAT. 12 by the template 'for every input the law returns true; each argument reads behind the call as it read before'; 0 by the template 'total and deterministic' (their statements: YtbjlmodabiadfaaTotals.lean).
  GIVEN WITH THE SEED: the statements are not yours to turn. If you find one false, say at which input.
  Laid BY PROGRAM, IN A SANDBOX (cutbox-rows.mjs): the forced cells as the released guide's own fill.sh prints them over the translation 3b9677a605b5ae9b… (all of the seat's roots in one cut). By AI agents, Wed Nov 11 2026. No macro, syntax, notation, axiom, sorry.
-/
import Derived.Test.YtbjlmodabiadfaaChecked
import GoSem.Claim
import GoSem.ClaimJoined
import GoSem.ClaimMapViews
import Derived.JoinedTies
import Derived.KernelRfl
namespace Go.Proofs.Ytbjlmodabiadfaa
/- THE CELL 'sum', in the pinned program and in every row, IS THE sha256 OF THE DUMP (.gsa) THAT YtbjlmodabiadfaaProg.lean LOADS. Nothing in Lean hashes anything: it is a label: what it is worth is what the hold of that sum in a sandbox is worth. -/
noncomputable def Try.pinned : Pinned := { name := "ytbjlmodabiadfaa", sum := "3b9677a605b5ae9bd66c3371f7496ba01a5ad1afa87f6a7c503ff2d9defc4f31", checked := Try.checked }
namespace Rows
def none {H : Type} : Left H := { results := [], args := [] }

/-- 'moneyerlaw06.MacTags': WHATEVER THE INPUT: true; the input reads as it did. -/
def macTagsSpec : ChangeSpec := { name := "macTags", fn := fun _ => fun
  | [d1, d2, d3] => { results := [.lit (.bool true)], args := [d1, d2, d3] }
  | _ => none }
def macTagsRow : OpenClaim := { program := "ytbjlmodabiadfaa", sum := "3b9677a605b5ae9bd66c3371f7496ba01a5ad1afa87f6a7c503ff2d9defc4f31", func := "moneyer/moneyerlaw06.MacTags", spec := "macTags", inPlace := ["sync/atomic.LoadUint32", "(*internal/sync.Mutex).Lock", "internal/race.Disable", "sync/atomic.CompareAndSwapInt32", "internal/race.Enable", "internal/race.Acquire", "(*internal/sync.Mutex).lockSlow", "internal/sync.runtime_canSpin", "internal/sync.runtime_doSpin", "internal/sync.throw", "internal/sync.runtime_nanotime", "internal/sync.runtime_SemacquireMutex", "sync/atomic.AddInt32", "(*internal/sync.Mutex).Unlock", "internal/race.ReleaseMerge", "(*internal/sync.Mutex).unlockSlow", "internal/sync.fatal", "internal/sync.runtime_Semrelease", "sync/atomic.StoreUint32"], unfollowed := true, recurses := true, apart := false }
def MacTagsSaid : Prop := macTagsRow.holds Try.pinned (OpenSpec.ofChange macTagsSpec)

/-- ITS FALSE NEIGHBOUR: 'it returns false'. Refute it at one input. -/
def macTagsWrong : ChangeSpec := { name := "macTags", fn := fun _ => fun
  | [d1, d2, d3] => { results := [.lit (.bool false)], args := [d1, d2, d3] }
  | _ => none }
def MacTagsWrongFalsely : Prop := macTagsRow.holds Try.pinned (OpenSpec.ofChange macTagsWrong)

/-- 'moneyerlaw06.MacSame': WHATEVER THE INPUT: true; the input reads as it did. -/
def macSameSpec : ChangeSpec := { name := "macSame", fn := fun _ => fun
  | [d1, d2] => { results := [.lit (.bool true)], args := [d1, d2] }
  | _ => none }
def macSameRow : OpenClaim := { program := "ytbjlmodabiadfaa", sum := "3b9677a605b5ae9bd66c3371f7496ba01a5ad1afa87f6a7c503ff2d9defc4f31", func := "moneyer/moneyerlaw06.MacSame", spec := "macSame", inPlace := ["sync/atomic.LoadUint32", "(*internal/sync.Mutex).Lock", "internal/race.Disable", "sync/atomic.CompareAndSwapInt32", "internal/race.Enable", "internal/race.Acquire", "(*internal/sync.Mutex).lockSlow", "internal/sync.runtime_canSpin", "internal/sync.runtime_doSpin", "internal/sync.throw", "internal/sync.runtime_nanotime", "internal/sync.runtime_SemacquireMutex", "sync/atomic.AddInt32", "(*internal/sync.Mutex).Unlock", "internal/race.ReleaseMerge", "(*internal/sync.Mutex).unlockSlow", "internal/sync.fatal", "internal/sync.runtime_Semrelease", "sync/atomic.StoreUint32"], unfollowed := true, recurses := true, apart := false }
def MacSameSaid : Prop := macSameRow.holds Try.pinned (OpenSpec.ofChange macSameSpec)

/-- ITS FALSE NEIGHBOUR: 'it returns false'. Refute it at one input. -/
def macSameWrong : ChangeSpec := { name := "macSame", fn := fun _ => fun
  | [d1, d2] => { results := [.lit (.bool false)], args := [d1, d2] }
  | _ => none }
def MacSameWrongFalsely : Prop := macSameRow.holds Try.pinned (OpenSpec.ofChange macSameWrong)

/-- 'moneyerlaw06.MacLong': WHATEVER THE INPUT: true; the input reads as it did. -/
def macLongSpec : ChangeSpec := { name := "macLong", fn := fun _ => fun
  | [d1, d2] => { results := [.lit (.bool true)], args := [d1, d2] }
  | _ => none }
def macLongRow : OpenClaim := { program := "ytbjlmodabiadfaa", sum := "3b9677a605b5ae9bd66c3371f7496ba01a5ad1afa87f6a7c503ff2d9defc4f31", func := "moneyer/moneyerlaw06.MacLong", spec := "macLong", inPlace := ["sync/atomic.LoadUint32", "(*internal/sync.Mutex).Lock", "internal/race.Disable", "sync/atomic.CompareAndSwapInt32", "internal/race.Enable", "internal/race.Acquire", "(*internal/sync.Mutex).lockSlow", "internal/sync.runtime_canSpin", "internal/sync.runtime_doSpin", "internal/sync.throw", "internal/sync.runtime_nanotime", "internal/sync.runtime_SemacquireMutex", "sync/atomic.AddInt32", "(*internal/sync.Mutex).Unlock", "internal/race.ReleaseMerge", "(*internal/sync.Mutex).unlockSlow", "internal/sync.fatal", "internal/sync.runtime_Semrelease", "sync/atomic.StoreUint32"], unfollowed := true, recurses := true, apart := false }
def MacLongSaid : Prop := macLongRow.holds Try.pinned (OpenSpec.ofChange macLongSpec)

/-- ITS FALSE NEIGHBOUR: 'it returns false'. Refute it at one input. -/
def macLongWrong : ChangeSpec := { name := "macLong", fn := fun _ => fun
  | [d1, d2] => { results := [.lit (.bool false)], args := [d1, d2] }
  | _ => none }
def MacLongWrongFalsely : Prop := macLongRow.holds Try.pinned (OpenSpec.ofChange macLongWrong)

/-- 'moneyerlaw06.MacPairs': WHATEVER THE INPUT: true; the input reads as it did. -/
def macPairsSpec : ChangeSpec := { name := "macPairs", fn := fun _ => fun
  | [d1, d2, d3, d4] => { results := [.lit (.bool true)], args := [d1, d2, d3, d4] }
  | _ => none }
def macPairsRow : OpenClaim := { program := "ytbjlmodabiadfaa", sum := "3b9677a605b5ae9bd66c3371f7496ba01a5ad1afa87f6a7c503ff2d9defc4f31", func := "moneyer/moneyerlaw06.MacPairs", spec := "macPairs", inPlace := ["sync/atomic.LoadUint32", "(*internal/sync.Mutex).Lock", "internal/race.Disable", "sync/atomic.CompareAndSwapInt32", "internal/race.Enable", "internal/race.Acquire", "(*internal/sync.Mutex).lockSlow", "internal/sync.runtime_canSpin", "internal/sync.runtime_doSpin", "internal/sync.throw", "internal/sync.runtime_nanotime", "internal/sync.runtime_SemacquireMutex", "sync/atomic.AddInt32", "(*internal/sync.Mutex).Unlock", "internal/race.ReleaseMerge", "(*internal/sync.Mutex).unlockSlow", "internal/sync.fatal", "internal/sync.runtime_Semrelease", "sync/atomic.StoreUint32"], unfollowed := true, recurses := true, apart := false }
def MacPairsSaid : Prop := macPairsRow.holds Try.pinned (OpenSpec.ofChange macPairsSpec)

/-- ITS FALSE NEIGHBOUR: 'it returns false'. Refute it at one input. -/
def macPairsWrong : ChangeSpec := { name := "macPairs", fn := fun _ => fun
  | [d1, d2, d3, d4] => { results := [.lit (.bool false)], args := [d1, d2, d3, d4] }
  | _ => none }
def MacPairsWrongFalsely : Prop := macPairsRow.holds Try.pinned (OpenSpec.ofChange macPairsWrong)

/-- 'moneyerlaw06.MacFolds': WHATEVER THE INPUT: true; the input reads as it did. -/
def macFoldsSpec : ChangeSpec := { name := "macFolds", fn := fun _ => fun
  | [d1, d2] => { results := [.lit (.bool true)], args := [d1, d2] }
  | _ => none }
def macFoldsRow : OpenClaim := { program := "ytbjlmodabiadfaa", sum := "3b9677a605b5ae9bd66c3371f7496ba01a5ad1afa87f6a7c503ff2d9defc4f31", func := "moneyer/moneyerlaw06.MacFolds", spec := "macFolds", inPlace := ["sync/atomic.LoadUint32", "(*internal/sync.Mutex).Lock", "internal/race.Disable", "sync/atomic.CompareAndSwapInt32", "internal/race.Enable", "internal/race.Acquire", "(*internal/sync.Mutex).lockSlow", "internal/sync.runtime_canSpin", "internal/sync.runtime_doSpin", "internal/sync.throw", "internal/sync.runtime_nanotime", "internal/sync.runtime_SemacquireMutex", "sync/atomic.AddInt32", "(*internal/sync.Mutex).Unlock", "internal/race.ReleaseMerge", "(*internal/sync.Mutex).unlockSlow", "internal/sync.fatal", "internal/sync.runtime_Semrelease", "sync/atomic.StoreUint32"], unfollowed := true, recurses := true, apart := false }
def MacFoldsSaid : Prop := macFoldsRow.holds Try.pinned (OpenSpec.ofChange macFoldsSpec)

/-- ITS FALSE NEIGHBOUR: 'it returns false'. Refute it at one input. -/
def macFoldsWrong : ChangeSpec := { name := "macFolds", fn := fun _ => fun
  | [d1, d2] => { results := [.lit (.bool false)], args := [d1, d2] }
  | _ => none }
def MacFoldsWrongFalsely : Prop := macFoldsRow.holds Try.pinned (OpenSpec.ofChange macFoldsWrong)

/-- 'moneyerlaw06.MacCuts': WHATEVER THE INPUT: true; the input reads as it did. -/
def macCutsSpec : ChangeSpec := { name := "macCuts", fn := fun _ => fun
  | [d1, d2, d3, d4, d5, d6] => { results := [.lit (.bool true)], args := [d1, d2, d3, d4, d5, d6] }
  | _ => none }
def macCutsRow : OpenClaim := { program := "ytbjlmodabiadfaa", sum := "3b9677a605b5ae9bd66c3371f7496ba01a5ad1afa87f6a7c503ff2d9defc4f31", func := "moneyer/moneyerlaw06.MacCuts", spec := "macCuts", inPlace := ["sync/atomic.LoadUint32", "(*internal/sync.Mutex).Lock", "internal/race.Disable", "sync/atomic.CompareAndSwapInt32", "internal/race.Enable", "internal/race.Acquire", "(*internal/sync.Mutex).lockSlow", "internal/sync.runtime_canSpin", "internal/sync.runtime_doSpin", "internal/sync.throw", "internal/sync.runtime_nanotime", "internal/sync.runtime_SemacquireMutex", "sync/atomic.AddInt32", "(*internal/sync.Mutex).Unlock", "internal/race.ReleaseMerge", "(*internal/sync.Mutex).unlockSlow", "internal/sync.fatal", "internal/sync.runtime_Semrelease", "sync/atomic.StoreUint32"], unfollowed := true, recurses := true, apart := false }
def MacCutsSaid : Prop := macCutsRow.holds Try.pinned (OpenSpec.ofChange macCutsSpec)

/-- ITS FALSE NEIGHBOUR: 'it returns false'. Refute it at one input. -/
def macCutsWrong : ChangeSpec := { name := "macCuts", fn := fun _ => fun
  | [d1, d2, d3, d4, d5, d6] => { results := [.lit (.bool false)], args := [d1, d2, d3, d4, d5, d6] }
  | _ => none }
def MacCutsWrongFalsely : Prop := macCutsRow.holds Try.pinned (OpenSpec.ofChange macCutsWrong)

/-- 'moneyerlaw19.AuditVerifies': WHATEVER THE INPUT: true; the input reads as it did. -/
def auditVerifiesSpec : ChangeSpec := { name := "auditVerifies", fn := fun _ => fun
  | [d1, d2, d3, d4, d5] => { results := [.lit (.bool true)], args := [d1, d2, d3, d4, d5] }
  | _ => none }
def auditVerifiesRow : OpenClaim := { program := "ytbjlmodabiadfaa", sum := "3b9677a605b5ae9bd66c3371f7496ba01a5ad1afa87f6a7c503ff2d9defc4f31", func := "moneyer/moneyerlaw19.AuditVerifies", spec := "auditVerifies", inPlace := ["sync/atomic.LoadInt64", "sync/atomic.AddInt64", "sync/atomic.LoadUint32", "(*internal/sync.Mutex).Lock", "internal/race.Disable", "sync/atomic.CompareAndSwapInt32", "internal/race.Enable", "internal/race.Acquire", "(*internal/sync.Mutex).lockSlow", "internal/sync.runtime_canSpin", "internal/sync.runtime_doSpin", "internal/sync.throw", "internal/sync.runtime_nanotime", "internal/sync.runtime_SemacquireMutex", "sync/atomic.AddInt32", "(*internal/sync.Mutex).Unlock", "internal/race.ReleaseMerge", "(*internal/sync.Mutex).unlockSlow", "internal/sync.fatal", "internal/sync.runtime_Semrelease", "sync/atomic.StoreUint32"], unfollowed := true, recurses := true, apart := false }
def AuditVerifiesSaid : Prop := auditVerifiesRow.holds Try.pinned (OpenSpec.ofChange auditVerifiesSpec)

/-- ITS FALSE NEIGHBOUR: 'it returns false'. Refute it at one input. -/
def auditVerifiesWrong : ChangeSpec := { name := "auditVerifies", fn := fun _ => fun
  | [d1, d2, d3, d4, d5] => { results := [.lit (.bool false)], args := [d1, d2, d3, d4, d5] }
  | _ => none }
def AuditVerifiesWrongFalsely : Prop := auditVerifiesRow.holds Try.pinned (OpenSpec.ofChange auditVerifiesWrong)

/-- 'moneyerlaw19.AuditJoins': WHATEVER THE INPUT: true; the input reads as it did. -/
def auditJoinsSpec : ChangeSpec := { name := "auditJoins", fn := fun _ => fun
  | [d1, d2, d3, d4, d5] => { results := [.lit (.bool true)], args := [d1, d2, d3, d4, d5] }
  | _ => none }
def auditJoinsRow : OpenClaim := { program := "ytbjlmodabiadfaa", sum := "3b9677a605b5ae9bd66c3371f7496ba01a5ad1afa87f6a7c503ff2d9defc4f31", func := "moneyer/moneyerlaw19.AuditJoins", spec := "auditJoins", inPlace := ["sync/atomic.LoadInt64", "sync/atomic.AddInt64", "sync/atomic.LoadUint32", "(*internal/sync.Mutex).Lock", "internal/race.Disable", "sync/atomic.CompareAndSwapInt32", "internal/race.Enable", "internal/race.Acquire", "(*internal/sync.Mutex).lockSlow", "internal/sync.runtime_canSpin", "internal/sync.runtime_doSpin", "internal/sync.throw", "internal/sync.runtime_nanotime", "internal/sync.runtime_SemacquireMutex", "sync/atomic.AddInt32", "(*internal/sync.Mutex).Unlock", "internal/race.ReleaseMerge", "(*internal/sync.Mutex).unlockSlow", "internal/sync.fatal", "internal/sync.runtime_Semrelease", "sync/atomic.StoreUint32"], unfollowed := true, recurses := true, apart := false }
def AuditJoinsSaid : Prop := auditJoinsRow.holds Try.pinned (OpenSpec.ofChange auditJoinsSpec)

/-- ITS FALSE NEIGHBOUR: 'it returns false'. Refute it at one input. -/
def auditJoinsWrong : ChangeSpec := { name := "auditJoins", fn := fun _ => fun
  | [d1, d2, d3, d4, d5] => { results := [.lit (.bool false)], args := [d1, d2, d3, d4, d5] }
  | _ => none }
def AuditJoinsWrongFalsely : Prop := auditJoinsRow.holds Try.pinned (OpenSpec.ofChange auditJoinsWrong)

/-- 'moneyerlaw19.AuditTurned': WHATEVER THE INPUT: true; the input reads as it did. -/
def auditTurnedSpec : ChangeSpec := { name := "auditTurned", fn := fun _ => fun
  | [d1, d2, d3, d4, d5] => { results := [.lit (.bool true)], args := [d1, d2, d3, d4, d5] }
  | _ => none }
def auditTurnedRow : OpenClaim := { program := "ytbjlmodabiadfaa", sum := "3b9677a605b5ae9bd66c3371f7496ba01a5ad1afa87f6a7c503ff2d9defc4f31", func := "moneyer/moneyerlaw19.AuditTurned", spec := "auditTurned", inPlace := ["sync/atomic.LoadInt64", "sync/atomic.AddInt64", "sync/atomic.LoadUint32", "(*internal/sync.Mutex).Lock", "internal/race.Disable", "sync/atomic.CompareAndSwapInt32", "internal/race.Enable", "internal/race.Acquire", "(*internal/sync.Mutex).lockSlow", "internal/sync.runtime_canSpin", "internal/sync.runtime_doSpin", "internal/sync.throw", "internal/sync.runtime_nanotime", "internal/sync.runtime_SemacquireMutex", "sync/atomic.AddInt32", "(*internal/sync.Mutex).Unlock", "internal/race.ReleaseMerge", "(*internal/sync.Mutex).unlockSlow", "internal/sync.fatal", "internal/sync.runtime_Semrelease", "sync/atomic.StoreUint32"], unfollowed := true, recurses := true, apart := false }
def AuditTurnedSaid : Prop := auditTurnedRow.holds Try.pinned (OpenSpec.ofChange auditTurnedSpec)

/-- ITS FALSE NEIGHBOUR: 'it returns false'. Refute it at one input. -/
def auditTurnedWrong : ChangeSpec := { name := "auditTurned", fn := fun _ => fun
  | [d1, d2, d3, d4, d5] => { results := [.lit (.bool false)], args := [d1, d2, d3, d4, d5] }
  | _ => none }
def AuditTurnedWrongFalsely : Prop := auditTurnedRow.holds Try.pinned (OpenSpec.ofChange auditTurnedWrong)

/-- 'moneyerlaw19.AuditNumbers': WHATEVER THE INPUT: true; the input reads as it did. -/
def auditNumbersSpec : ChangeSpec := { name := "auditNumbers", fn := fun _ => fun
  | [d1, d2] => { results := [.lit (.bool true)], args := [d1, d2] }
  | _ => none }
def auditNumbersRow : OpenClaim := { program := "ytbjlmodabiadfaa", sum := "3b9677a605b5ae9bd66c3371f7496ba01a5ad1afa87f6a7c503ff2d9defc4f31", func := "moneyer/moneyerlaw19.AuditNumbers", spec := "auditNumbers", inPlace := ["sync/atomic.LoadInt64", "sync/atomic.AddInt64", "sync/atomic.LoadUint32", "(*internal/sync.Mutex).Lock", "internal/race.Disable", "sync/atomic.CompareAndSwapInt32", "internal/race.Enable", "internal/race.Acquire", "(*internal/sync.Mutex).lockSlow", "internal/sync.runtime_canSpin", "internal/sync.runtime_doSpin", "internal/sync.throw", "internal/sync.runtime_nanotime", "internal/sync.runtime_SemacquireMutex", "sync/atomic.AddInt32", "(*internal/sync.Mutex).Unlock", "internal/race.ReleaseMerge", "(*internal/sync.Mutex).unlockSlow", "internal/sync.fatal", "internal/sync.runtime_Semrelease", "sync/atomic.StoreUint32"], unfollowed := true, recurses := true, apart := false }
def AuditNumbersSaid : Prop := auditNumbersRow.holds Try.pinned (OpenSpec.ofChange auditNumbersSpec)

/-- ITS FALSE NEIGHBOUR: 'it returns false'. Refute it at one input. -/
def auditNumbersWrong : ChangeSpec := { name := "auditNumbers", fn := fun _ => fun
  | [d1, d2] => { results := [.lit (.bool false)], args := [d1, d2] }
  | _ => none }
def AuditNumbersWrongFalsely : Prop := auditNumbersRow.holds Try.pinned (OpenSpec.ofChange auditNumbersWrong)

/-- 'moneyerlaw19.AuditBack': WHATEVER THE INPUT: true; the input reads as it did. -/
def auditBackSpec : ChangeSpec := { name := "auditBack", fn := fun _ => fun
  | [d1, d2, d3] => { results := [.lit (.bool true)], args := [d1, d2, d3] }
  | _ => none }
def auditBackRow : OpenClaim := { program := "ytbjlmodabiadfaa", sum := "3b9677a605b5ae9bd66c3371f7496ba01a5ad1afa87f6a7c503ff2d9defc4f31", func := "moneyer/moneyerlaw19.AuditBack", spec := "auditBack", inPlace := ["sync/atomic.LoadInt64", "sync/atomic.AddInt64", "sync/atomic.LoadUint32", "(*internal/sync.Mutex).Lock", "internal/race.Disable", "sync/atomic.CompareAndSwapInt32", "internal/race.Enable", "internal/race.Acquire", "(*internal/sync.Mutex).lockSlow", "internal/sync.runtime_canSpin", "internal/sync.runtime_doSpin", "internal/sync.throw", "internal/sync.runtime_nanotime", "internal/sync.runtime_SemacquireMutex", "sync/atomic.AddInt32", "(*internal/sync.Mutex).Unlock", "internal/race.ReleaseMerge", "(*internal/sync.Mutex).unlockSlow", "internal/sync.fatal", "internal/sync.runtime_Semrelease", "sync/atomic.StoreUint32", "sync/atomic.StoreInt64"], unfollowed := true, recurses := true, apart := false }
def AuditBackSaid : Prop := auditBackRow.holds Try.pinned (OpenSpec.ofChange auditBackSpec)

/-- ITS FALSE NEIGHBOUR: 'it returns false'. Refute it at one input. -/
def auditBackWrong : ChangeSpec := { name := "auditBack", fn := fun _ => fun
  | [d1, d2, d3] => { results := [.lit (.bool false)], args := [d1, d2, d3] }
  | _ => none }
def AuditBackWrongFalsely : Prop := auditBackRow.holds Try.pinned (OpenSpec.ofChange auditBackWrong)

/-- 'moneyerlaw19.AuditPlays': WHATEVER THE INPUT: true; the input reads as it did. -/
def auditPlaysSpec : ChangeSpec := { name := "auditPlays", fn := fun _ => fun
  | [d1, d2, d3, d4, d5, d6] => { results := [.lit (.bool true)], args := [d1, d2, d3, d4, d5, d6] }
  | _ => none }
def auditPlaysRow : OpenClaim := { program := "ytbjlmodabiadfaa", sum := "3b9677a605b5ae9bd66c3371f7496ba01a5ad1afa87f6a7c503ff2d9defc4f31", func := "moneyer/moneyerlaw19.AuditPlays", spec := "auditPlays", inPlace := ["sync/atomic.LoadInt64", "sync/atomic.AddInt64", "sync/atomic.LoadUint32", "(*internal/sync.Mutex).Lock", "internal/race.Disable", "sync/atomic.CompareAndSwapInt32", "internal/race.Enable", "internal/race.Acquire", "(*internal/sync.Mutex).lockSlow", "internal/sync.runtime_canSpin", "internal/sync.runtime_doSpin", "internal/sync.throw", "internal/sync.runtime_nanotime", "internal/sync.runtime_SemacquireMutex", "sync/atomic.AddInt32", "(*internal/sync.Mutex).Unlock", "internal/race.ReleaseMerge", "(*internal/sync.Mutex).unlockSlow", "internal/sync.fatal", "internal/sync.runtime_Semrelease", "sync/atomic.StoreUint32", "sync/atomic.StoreInt64"], unfollowed := true, recurses := true, apart := false }
def AuditPlaysSaid : Prop := auditPlaysRow.holds Try.pinned (OpenSpec.ofChange auditPlaysSpec)

/-- ITS FALSE NEIGHBOUR: 'it returns false'. Refute it at one input. -/
def auditPlaysWrong : ChangeSpec := { name := "auditPlays", fn := fun _ => fun
  | [d1, d2, d3, d4, d5, d6] => { results := [.lit (.bool false)], args := [d1, d2, d3, d4, d5, d6] }
  | _ => none }
def AuditPlaysWrongFalsely : Prop := auditPlaysRow.holds Try.pinned (OpenSpec.ofChange auditPlaysWrong)

/- THE SECOND FORM. 'bulk': how many values and letters a reading holds, each counted each time it is reached (what is shared counts as often as it is met; a slice's spare places count too). A statement '..UptoSaid' is the law's where the arguments, and the package variables that the reading takes, are together of bulk at most 1048576: NARROWER than '..Said'. Prove '..Said' where nothing that the law and all that it calls make is longer than what came in: it says more and counts as full. Else prove '..UptoSaid'. A law counts once. -/
mutual
def uptoBulk {H : Type} : DataW H → Nat
  | .lit (.string bytes) => bytes.length + 1
  | .lit _ => 1
  | .nil => 1
  | .ptr d => uptoBulk d + 1
  | .slice elems spare => uptoBulkAll elems + uptoBulkAll spare + 1
  | .agg parts => uptoBulkAll parts + 1
  | .iface _ d => uptoBulk d + 1
  | .map entries => uptoBulkEntries entries + 1
  | .held _ => 1
def uptoBulkAll {H : Type} : List (DataW H) → Nat
  | [] => 0
  | d :: r => uptoBulk d + uptoBulkAll r
def uptoBulkEntries {H : Type} : List (Lit × DataW H) → Nat
  | [] => 0
  | x :: r => uptoBulkEntry x + uptoBulkEntries r
def uptoBulkEntry {H : Type} : Lit × DataW H → Nat
  | (.string bytes, d) => bytes.length + uptoBulk d + 1
  | (_, d) => uptoBulk d + 1
 end
def uptoSmall : (H : Type) → List (DataW H) → Bool := fun _ ds => decide (uptoBulkAll ds ≤ 1048576)
def OpenSpec.upto (s : _root_.Go.ChangeSpec) : _root_.Go.OpenSpec := { _root_.Go.OpenSpec.ofChange s with cond := some uptoSmall }

/-- 'moneyerlaw06.MacTags', WHERE WHAT IT READS IS OF BULK AT MOST 1048576: true; the input reads as it did. -/
def macTagsUptoRow : OpenClaim := { program := "ytbjlmodabiadfaa", sum := "3b9677a605b5ae9bd66c3371f7496ba01a5ad1afa87f6a7c503ff2d9defc4f31", func := "moneyer/moneyerlaw06.MacTags", spec := "macTags", inPlace := ["sync/atomic.LoadUint32", "(*internal/sync.Mutex).Lock", "internal/race.Disable", "sync/atomic.CompareAndSwapInt32", "internal/race.Enable", "internal/race.Acquire", "(*internal/sync.Mutex).lockSlow", "internal/sync.runtime_canSpin", "internal/sync.runtime_doSpin", "internal/sync.throw", "internal/sync.runtime_nanotime", "internal/sync.runtime_SemacquireMutex", "sync/atomic.AddInt32", "(*internal/sync.Mutex).Unlock", "internal/race.ReleaseMerge", "(*internal/sync.Mutex).unlockSlow", "internal/sync.fatal", "internal/sync.runtime_Semrelease", "sync/atomic.StoreUint32"], unfollowed := true, recurses := true, apart := false, narrowed := true }
def MacTagsUptoSaid : Prop := macTagsUptoRow.holds Try.pinned (OpenSpec.upto macTagsSpec)

/-- 'moneyerlaw06.MacSame', WHERE WHAT IT READS IS OF BULK AT MOST 1048576: true; the input reads as it did. -/
def macSameUptoRow : OpenClaim := { program := "ytbjlmodabiadfaa", sum := "3b9677a605b5ae9bd66c3371f7496ba01a5ad1afa87f6a7c503ff2d9defc4f31", func := "moneyer/moneyerlaw06.MacSame", spec := "macSame", inPlace := ["sync/atomic.LoadUint32", "(*internal/sync.Mutex).Lock", "internal/race.Disable", "sync/atomic.CompareAndSwapInt32", "internal/race.Enable", "internal/race.Acquire", "(*internal/sync.Mutex).lockSlow", "internal/sync.runtime_canSpin", "internal/sync.runtime_doSpin", "internal/sync.throw", "internal/sync.runtime_nanotime", "internal/sync.runtime_SemacquireMutex", "sync/atomic.AddInt32", "(*internal/sync.Mutex).Unlock", "internal/race.ReleaseMerge", "(*internal/sync.Mutex).unlockSlow", "internal/sync.fatal", "internal/sync.runtime_Semrelease", "sync/atomic.StoreUint32"], unfollowed := true, recurses := true, apart := false, narrowed := true }
def MacSameUptoSaid : Prop := macSameUptoRow.holds Try.pinned (OpenSpec.upto macSameSpec)

/-- 'moneyerlaw06.MacLong', WHERE WHAT IT READS IS OF BULK AT MOST 1048576: true; the input reads as it did. -/
def macLongUptoRow : OpenClaim := { program := "ytbjlmodabiadfaa", sum := "3b9677a605b5ae9bd66c3371f7496ba01a5ad1afa87f6a7c503ff2d9defc4f31", func := "moneyer/moneyerlaw06.MacLong", spec := "macLong", inPlace := ["sync/atomic.LoadUint32", "(*internal/sync.Mutex).Lock", "internal/race.Disable", "sync/atomic.CompareAndSwapInt32", "internal/race.Enable", "internal/race.Acquire", "(*internal/sync.Mutex).lockSlow", "internal/sync.runtime_canSpin", "internal/sync.runtime_doSpin", "internal/sync.throw", "internal/sync.runtime_nanotime", "internal/sync.runtime_SemacquireMutex", "sync/atomic.AddInt32", "(*internal/sync.Mutex).Unlock", "internal/race.ReleaseMerge", "(*internal/sync.Mutex).unlockSlow", "internal/sync.fatal", "internal/sync.runtime_Semrelease", "sync/atomic.StoreUint32"], unfollowed := true, recurses := true, apart := false, narrowed := true }
def MacLongUptoSaid : Prop := macLongUptoRow.holds Try.pinned (OpenSpec.upto macLongSpec)

/-- 'moneyerlaw06.MacPairs', WHERE WHAT IT READS IS OF BULK AT MOST 1048576: true; the input reads as it did. -/
def macPairsUptoRow : OpenClaim := { program := "ytbjlmodabiadfaa", sum := "3b9677a605b5ae9bd66c3371f7496ba01a5ad1afa87f6a7c503ff2d9defc4f31", func := "moneyer/moneyerlaw06.MacPairs", spec := "macPairs", inPlace := ["sync/atomic.LoadUint32", "(*internal/sync.Mutex).Lock", "internal/race.Disable", "sync/atomic.CompareAndSwapInt32", "internal/race.Enable", "internal/race.Acquire", "(*internal/sync.Mutex).lockSlow", "internal/sync.runtime_canSpin", "internal/sync.runtime_doSpin", "internal/sync.throw", "internal/sync.runtime_nanotime", "internal/sync.runtime_SemacquireMutex", "sync/atomic.AddInt32", "(*internal/sync.Mutex).Unlock", "internal/race.ReleaseMerge", "(*internal/sync.Mutex).unlockSlow", "internal/sync.fatal", "internal/sync.runtime_Semrelease", "sync/atomic.StoreUint32"], unfollowed := true, recurses := true, apart := false, narrowed := true }
def MacPairsUptoSaid : Prop := macPairsUptoRow.holds Try.pinned (OpenSpec.upto macPairsSpec)

/-- 'moneyerlaw06.MacFolds', WHERE WHAT IT READS IS OF BULK AT MOST 1048576: true; the input reads as it did. -/
def macFoldsUptoRow : OpenClaim := { program := "ytbjlmodabiadfaa", sum := "3b9677a605b5ae9bd66c3371f7496ba01a5ad1afa87f6a7c503ff2d9defc4f31", func := "moneyer/moneyerlaw06.MacFolds", spec := "macFolds", inPlace := ["sync/atomic.LoadUint32", "(*internal/sync.Mutex).Lock", "internal/race.Disable", "sync/atomic.CompareAndSwapInt32", "internal/race.Enable", "internal/race.Acquire", "(*internal/sync.Mutex).lockSlow", "internal/sync.runtime_canSpin", "internal/sync.runtime_doSpin", "internal/sync.throw", "internal/sync.runtime_nanotime", "internal/sync.runtime_SemacquireMutex", "sync/atomic.AddInt32", "(*internal/sync.Mutex).Unlock", "internal/race.ReleaseMerge", "(*internal/sync.Mutex).unlockSlow", "internal/sync.fatal", "internal/sync.runtime_Semrelease", "sync/atomic.StoreUint32"], unfollowed := true, recurses := true, apart := false, narrowed := true }
def MacFoldsUptoSaid : Prop := macFoldsUptoRow.holds Try.pinned (OpenSpec.upto macFoldsSpec)

/-- 'moneyerlaw06.MacCuts', WHERE WHAT IT READS IS OF BULK AT MOST 1048576: true; the input reads as it did. -/
def macCutsUptoRow : OpenClaim := { program := "ytbjlmodabiadfaa", sum := "3b9677a605b5ae9bd66c3371f7496ba01a5ad1afa87f6a7c503ff2d9defc4f31", func := "moneyer/moneyerlaw06.MacCuts", spec := "macCuts", inPlace := ["sync/atomic.LoadUint32", "(*internal/sync.Mutex).Lock", "internal/race.Disable", "sync/atomic.CompareAndSwapInt32", "internal/race.Enable", "internal/race.Acquire", "(*internal/sync.Mutex).lockSlow", "internal/sync.runtime_canSpin", "internal/sync.runtime_doSpin", "internal/sync.throw", "internal/sync.runtime_nanotime", "internal/sync.runtime_SemacquireMutex", "sync/atomic.AddInt32", "(*internal/sync.Mutex).Unlock", "internal/race.ReleaseMerge", "(*internal/sync.Mutex).unlockSlow", "internal/sync.fatal", "internal/sync.runtime_Semrelease", "sync/atomic.StoreUint32"], unfollowed := true, recurses := true, apart := false, narrowed := true }
def MacCutsUptoSaid : Prop := macCutsUptoRow.holds Try.pinned (OpenSpec.upto macCutsSpec)

/-- 'moneyerlaw19.AuditVerifies', WHERE WHAT IT READS IS OF BULK AT MOST 1048576: true; the input reads as it did. -/
def auditVerifiesUptoRow : OpenClaim := { program := "ytbjlmodabiadfaa", sum := "3b9677a605b5ae9bd66c3371f7496ba01a5ad1afa87f6a7c503ff2d9defc4f31", func := "moneyer/moneyerlaw19.AuditVerifies", spec := "auditVerifies", inPlace := ["sync/atomic.LoadInt64", "sync/atomic.AddInt64", "sync/atomic.LoadUint32", "(*internal/sync.Mutex).Lock", "internal/race.Disable", "sync/atomic.CompareAndSwapInt32", "internal/race.Enable", "internal/race.Acquire", "(*internal/sync.Mutex).lockSlow", "internal/sync.runtime_canSpin", "internal/sync.runtime_doSpin", "internal/sync.throw", "internal/sync.runtime_nanotime", "internal/sync.runtime_SemacquireMutex", "sync/atomic.AddInt32", "(*internal/sync.Mutex).Unlock", "internal/race.ReleaseMerge", "(*internal/sync.Mutex).unlockSlow", "internal/sync.fatal", "internal/sync.runtime_Semrelease", "sync/atomic.StoreUint32"], unfollowed := true, recurses := true, apart := false, narrowed := true }
def AuditVerifiesUptoSaid : Prop := auditVerifiesUptoRow.holds Try.pinned (OpenSpec.upto auditVerifiesSpec)

/-- 'moneyerlaw19.AuditJoins', WHERE WHAT IT READS IS OF BULK AT MOST 1048576: true; the input reads as it did. -/
def auditJoinsUptoRow : OpenClaim := { program := "ytbjlmodabiadfaa", sum := "3b9677a605b5ae9bd66c3371f7496ba01a5ad1afa87f6a7c503ff2d9defc4f31", func := "moneyer/moneyerlaw19.AuditJoins", spec := "auditJoins", inPlace := ["sync/atomic.LoadInt64", "sync/atomic.AddInt64", "sync/atomic.LoadUint32", "(*internal/sync.Mutex).Lock", "internal/race.Disable", "sync/atomic.CompareAndSwapInt32", "internal/race.Enable", "internal/race.Acquire", "(*internal/sync.Mutex).lockSlow", "internal/sync.runtime_canSpin", "internal/sync.runtime_doSpin", "internal/sync.throw", "internal/sync.runtime_nanotime", "internal/sync.runtime_SemacquireMutex", "sync/atomic.AddInt32", "(*internal/sync.Mutex).Unlock", "internal/race.ReleaseMerge", "(*internal/sync.Mutex).unlockSlow", "internal/sync.fatal", "internal/sync.runtime_Semrelease", "sync/atomic.StoreUint32"], unfollowed := true, recurses := true, apart := false, narrowed := true }
def AuditJoinsUptoSaid : Prop := auditJoinsUptoRow.holds Try.pinned (OpenSpec.upto auditJoinsSpec)

/-- 'moneyerlaw19.AuditTurned', WHERE WHAT IT READS IS OF BULK AT MOST 1048576: true; the input reads as it did. -/
def auditTurnedUptoRow : OpenClaim := { program := "ytbjlmodabiadfaa", sum := "3b9677a605b5ae9bd66c3371f7496ba01a5ad1afa87f6a7c503ff2d9defc4f31", func := "moneyer/moneyerlaw19.AuditTurned", spec := "auditTurned", inPlace := ["sync/atomic.LoadInt64", "sync/atomic.AddInt64", "sync/atomic.LoadUint32", "(*internal/sync.Mutex).Lock", "internal/race.Disable", "sync/atomic.CompareAndSwapInt32", "internal/race.Enable", "internal/race.Acquire", "(*internal/sync.Mutex).lockSlow", "internal/sync.runtime_canSpin", "internal/sync.runtime_doSpin", "internal/sync.throw", "internal/sync.runtime_nanotime", "internal/sync.runtime_SemacquireMutex", "sync/atomic.AddInt32", "(*internal/sync.Mutex).Unlock", "internal/race.ReleaseMerge", "(*internal/sync.Mutex).unlockSlow", "internal/sync.fatal", "internal/sync.runtime_Semrelease", "sync/atomic.StoreUint32"], unfollowed := true, recurses := true, apart := false, narrowed := true }
def AuditTurnedUptoSaid : Prop := auditTurnedUptoRow.holds Try.pinned (OpenSpec.upto auditTurnedSpec)

/-- 'moneyerlaw19.AuditNumbers', WHERE WHAT IT READS IS OF BULK AT MOST 1048576: true; the input reads as it did. -/
def auditNumbersUptoRow : OpenClaim := { program := "ytbjlmodabiadfaa", sum := "3b9677a605b5ae9bd66c3371f7496ba01a5ad1afa87f6a7c503ff2d9defc4f31", func := "moneyer/moneyerlaw19.AuditNumbers", spec := "auditNumbers", inPlace := ["sync/atomic.LoadInt64", "sync/atomic.AddInt64", "sync/atomic.LoadUint32", "(*internal/sync.Mutex).Lock", "internal/race.Disable", "sync/atomic.CompareAndSwapInt32", "internal/race.Enable", "internal/race.Acquire", "(*internal/sync.Mutex).lockSlow", "internal/sync.runtime_canSpin", "internal/sync.runtime_doSpin", "internal/sync.throw", "internal/sync.runtime_nanotime", "internal/sync.runtime_SemacquireMutex", "sync/atomic.AddInt32", "(*internal/sync.Mutex).Unlock", "internal/race.ReleaseMerge", "(*internal/sync.Mutex).unlockSlow", "internal/sync.fatal", "internal/sync.runtime_Semrelease", "sync/atomic.StoreUint32"], unfollowed := true, recurses := true, apart := false, narrowed := true }
def AuditNumbersUptoSaid : Prop := auditNumbersUptoRow.holds Try.pinned (OpenSpec.upto auditNumbersSpec)

/-- 'moneyerlaw19.AuditBack', WHERE WHAT IT READS IS OF BULK AT MOST 1048576: true; the input reads as it did. -/
def auditBackUptoRow : OpenClaim := { program := "ytbjlmodabiadfaa", sum := "3b9677a605b5ae9bd66c3371f7496ba01a5ad1afa87f6a7c503ff2d9defc4f31", func := "moneyer/moneyerlaw19.AuditBack", spec := "auditBack", inPlace := ["sync/atomic.LoadInt64", "sync/atomic.AddInt64", "sync/atomic.LoadUint32", "(*internal/sync.Mutex).Lock", "internal/race.Disable", "sync/atomic.CompareAndSwapInt32", "internal/race.Enable", "internal/race.Acquire", "(*internal/sync.Mutex).lockSlow", "internal/sync.runtime_canSpin", "internal/sync.runtime_doSpin", "internal/sync.throw", "internal/sync.runtime_nanotime", "internal/sync.runtime_SemacquireMutex", "sync/atomic.AddInt32", "(*internal/sync.Mutex).Unlock", "internal/race.ReleaseMerge", "(*internal/sync.Mutex).unlockSlow", "internal/sync.fatal", "internal/sync.runtime_Semrelease", "sync/atomic.StoreUint32", "sync/atomic.StoreInt64"], unfollowed := true, recurses := true, apart := false, narrowed := true }
def AuditBackUptoSaid : Prop := auditBackUptoRow.holds Try.pinned (OpenSpec.upto auditBackSpec)

/-- 'moneyerlaw19.AuditPlays', WHERE WHAT IT READS IS OF BULK AT MOST 1048576: true; the input reads as it did. -/
def auditPlaysUptoRow : OpenClaim := { program := "ytbjlmodabiadfaa", sum := "3b9677a605b5ae9bd66c3371f7496ba01a5ad1afa87f6a7c503ff2d9defc4f31", func := "moneyer/moneyerlaw19.AuditPlays", spec := "auditPlays", inPlace := ["sync/atomic.LoadInt64", "sync/atomic.AddInt64", "sync/atomic.LoadUint32", "(*internal/sync.Mutex).Lock", "internal/race.Disable", "sync/atomic.CompareAndSwapInt32", "internal/race.Enable", "internal/race.Acquire", "(*internal/sync.Mutex).lockSlow", "internal/sync.runtime_canSpin", "internal/sync.runtime_doSpin", "internal/sync.throw", "internal/sync.runtime_nanotime", "internal/sync.runtime_SemacquireMutex", "sync/atomic.AddInt32", "(*internal/sync.Mutex).Unlock", "internal/race.ReleaseMerge", "(*internal/sync.Mutex).unlockSlow", "internal/sync.fatal", "internal/sync.runtime_Semrelease", "sync/atomic.StoreUint32", "sync/atomic.StoreInt64"], unfollowed := true, recurses := true, apart := false, narrowed := true }
def AuditPlaysUptoSaid : Prop := auditPlaysUptoRow.holds Try.pinned (OpenSpec.upto auditPlaysSpec)

end Rows
end Go.Proofs.Ytbjlmodabiadfaa
