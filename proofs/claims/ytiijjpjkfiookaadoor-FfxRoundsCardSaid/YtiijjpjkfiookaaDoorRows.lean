/-
  NARROWER THAN 'FOR EVERY INPUT', by the rows' own cells (each row's printed sentence says how): RadixNumerals: laid · RadixWidths: laid · RadixGoes: laid · RadixSums: laid · RadixRests: laid · RadixBack: laid · FfxBack: laid · FfxAgain: laid · FfxRounds: laid.
  DERIVED. THE GIVEN ROWS OF THIS SEAT. 9 by the template 'for every input the law returns true; each argument reads behind the call as it read before'; 0 by the template 'total and deterministic' (their statements: YtiijjpjkfiookaaDoorTotals.lean).
  GIVEN WITH THE SEED: the statements are not yours to turn. If you find one false, say at which input.
  Laid BY PROGRAM, IN A SANDBOX (cutbox-rows.mjs): the forced cells as the released guide's own fill.sh prints them over the translation b8a78b1b696a31c2… (all of the seat's roots in one cut). By AI agents, Wed Nov 11 2026. No macro, syntax, notation, axiom, sorry.
-/
import Derived.Test.YtiijjpjkfiookaaDoorChecked
import GoSem.PinnedTables
import GoSem.Claim
import GoSem.ClaimJoined
import GoSem.ClaimMapViews
import Derived.JoinedTies
import Derived.KernelRfl
namespace Go.Proofs.YtiijjpjkfiookaaDoor
/- THE CELL 'sum', in the pinned program and in every row, IS THE sha256 OF THE DUMP (.gsa) THAT YtiijjpjkfiookaaDoorProg.lean LOADS. Nothing in Lean hashes anything: it is a label: what it is worth is what the hold of that sum in a sandbox is worth. -/
noncomputable def Tryd.pinned : Pinned := { name := "ytiijjpjkfiookaadoor", sum := "b8a78b1b696a31c2b7501f6cc29508f8d65450f99ffde09d7251051ac5f14dec", checked := Tryd.checked }
namespace Rows
def none {H : Type} : Left H := { results := [], args := [] }

/- WHAT THE LISTED PACKAGE-LEVEL VARIABLES READ AS WHEN THE CALL BEGINS. Each datum BY PROGRAM (the guide's laid-datum.mjs) off the statement by which the dump's own 'gosem.cut.vars' lays the variable. In a bare row this is a premise. The card (YtiijjpjkfiookaaDoorCards.lean) ties it to the program's text. -/
def laid_unicode_utf8_acceptRanges {H : Type} : DataW H := .agg [.agg [.lit (.int .u8 128), .lit (.int .u8 191)], .agg [.lit (.int .u8 160), .lit (.int .u8 191)], .agg [.lit (.int .u8 128), .lit (.int .u8 159)], .agg [.lit (.int .u8 144), .lit (.int .u8 191)], .agg [.lit (.int .u8 128), .lit (.int .u8 143)], .agg [.lit (.int .u8 0), .lit (.int .u8 0)], .agg [.lit (.int .u8 0), .lit (.int .u8 0)], .agg [.lit (.int .u8 0), .lit (.int .u8 0)], .agg [.lit (.int .u8 0), .lit (.int .u8 0)], .agg [.lit (.int .u8 0), .lit (.int .u8 0)], .agg [.lit (.int .u8 0), .lit (.int .u8 0)], .agg [.lit (.int .u8 0), .lit (.int .u8 0)], .agg [.lit (.int .u8 0), .lit (.int .u8 0)], .agg [.lit (.int .u8 0), .lit (.int .u8 0)], .agg [.lit (.int .u8 0), .lit (.int .u8 0)], .agg [.lit (.int .u8 0), .lit (.int .u8 0)]]
/-- One of Go's own tables, pinned by name: the form's constant. -/
def laid_unicode_utf8_first : DataW Unit := Go.Pinned.utf8First

/-- 'moneyerlaw09.RadixNumerals': WHATEVER THE INPUT: true; the input reads as it did. -/
def radixNumeralsSpec : ChangeSpec := { name := "radixNumerals", fn := fun _ => fun
  | [d1, d2, d3] => { results := [.lit (.bool true)], args := [d1, d2, d3] }
  | _ => none }
def radixNumeralsRow : OpenClaim := { program := "ytiijjpjkfiookaadoor", sum := "b8a78b1b696a31c2b7501f6cc29508f8d65450f99ffde09d7251051ac5f14dec", func := "moneyer/moneyerlaw09.RadixNumerals", spec := "radixNumerals", inPlace := ["internal/bytealg.IndexByteString", "internal/bytealg.IndexString"], named := ["unicode/utf8.first", "unicode/utf8.acceptRanges", "internal/bytealg.MaxLen"], apart := false, laid := [("unicode/utf8.acceptRanges", laid_unicode_utf8_acceptRanges), ("unicode/utf8.first", laid_unicode_utf8_first)] }
def RadixNumeralsSaid : Prop := radixNumeralsRow.holds Tryd.pinned (OpenSpec.ofChange radixNumeralsSpec)

/-- ITS FALSE NEIGHBOUR: 'it returns false'. Refute it at one input. -/
def radixNumeralsWrong : ChangeSpec := { name := "radixNumerals", fn := fun _ => fun
  | [d1, d2, d3] => { results := [.lit (.bool false)], args := [d1, d2, d3] }
  | _ => none }
def RadixNumeralsWrongFalsely : Prop := radixNumeralsRow.holds Tryd.pinned (OpenSpec.ofChange radixNumeralsWrong)

/-- 'moneyerlaw09.RadixWidths': WHATEVER THE INPUT: true; the input reads as it did. -/
def radixWidthsSpec : ChangeSpec := { name := "radixWidths", fn := fun _ => fun
  | [d] => { results := [.lit (.bool true)], args := [d] }
  | _ => none }
def radixWidthsRow : OpenClaim := { program := "ytiijjpjkfiookaadoor", sum := "b8a78b1b696a31c2b7501f6cc29508f8d65450f99ffde09d7251051ac5f14dec", func := "moneyer/moneyerlaw09.RadixWidths", spec := "radixWidths", inPlace := ["internal/bytealg.IndexByteString", "internal/bytealg.IndexString"], named := ["unicode/utf8.first", "unicode/utf8.acceptRanges", "internal/bytealg.MaxLen"], apart := false, laid := [("unicode/utf8.acceptRanges", laid_unicode_utf8_acceptRanges), ("unicode/utf8.first", laid_unicode_utf8_first)] }
def RadixWidthsSaid : Prop := radixWidthsRow.holds Tryd.pinned (OpenSpec.ofChange radixWidthsSpec)

/-- ITS FALSE NEIGHBOUR: 'it returns false'. Refute it at one input. -/
def radixWidthsWrong : ChangeSpec := { name := "radixWidths", fn := fun _ => fun
  | [d] => { results := [.lit (.bool false)], args := [d] }
  | _ => none }
def RadixWidthsWrongFalsely : Prop := radixWidthsRow.holds Tryd.pinned (OpenSpec.ofChange radixWidthsWrong)

/-- 'moneyerlaw09.RadixGoes': WHATEVER THE INPUT: true; the input reads as it did. -/
def radixGoesSpec : ChangeSpec := { name := "radixGoes", fn := fun _ => fun
  | [d1, d2, d3] => { results := [.lit (.bool true)], args := [d1, d2, d3] }
  | _ => none }
def radixGoesRow : OpenClaim := { program := "ytiijjpjkfiookaadoor", sum := "b8a78b1b696a31c2b7501f6cc29508f8d65450f99ffde09d7251051ac5f14dec", func := "moneyer/moneyerlaw09.RadixGoes", spec := "radixGoes", inPlace := ["internal/bytealg.IndexByteString", "internal/bytealg.IndexString"], named := ["unicode/utf8.first", "unicode/utf8.acceptRanges", "internal/bytealg.MaxLen"], apart := false, laid := [("unicode/utf8.acceptRanges", laid_unicode_utf8_acceptRanges), ("unicode/utf8.first", laid_unicode_utf8_first)] }
def RadixGoesSaid : Prop := radixGoesRow.holds Tryd.pinned (OpenSpec.ofChange radixGoesSpec)

/-- ITS FALSE NEIGHBOUR: 'it returns false'. Refute it at one input. -/
def radixGoesWrong : ChangeSpec := { name := "radixGoes", fn := fun _ => fun
  | [d1, d2, d3] => { results := [.lit (.bool false)], args := [d1, d2, d3] }
  | _ => none }
def RadixGoesWrongFalsely : Prop := radixGoesRow.holds Tryd.pinned (OpenSpec.ofChange radixGoesWrong)

/-- 'moneyerlaw09.RadixSums': WHATEVER THE INPUT: true; the input reads as it did. -/
def radixSumsSpec : ChangeSpec := { name := "radixSums", fn := fun _ => fun
  | [d1, d2, d3, d4] => { results := [.lit (.bool true)], args := [d1, d2, d3, d4] }
  | _ => none }
def radixSumsRow : OpenClaim := { program := "ytiijjpjkfiookaadoor", sum := "b8a78b1b696a31c2b7501f6cc29508f8d65450f99ffde09d7251051ac5f14dec", func := "moneyer/moneyerlaw09.RadixSums", spec := "radixSums", inPlace := ["internal/bytealg.IndexByteString", "internal/bytealg.IndexString"], named := ["unicode/utf8.first", "unicode/utf8.acceptRanges", "internal/bytealg.MaxLen"], apart := false, laid := [("unicode/utf8.acceptRanges", laid_unicode_utf8_acceptRanges), ("unicode/utf8.first", laid_unicode_utf8_first)] }
def RadixSumsSaid : Prop := radixSumsRow.holds Tryd.pinned (OpenSpec.ofChange radixSumsSpec)

/-- ITS FALSE NEIGHBOUR: 'it returns false'. Refute it at one input. -/
def radixSumsWrong : ChangeSpec := { name := "radixSums", fn := fun _ => fun
  | [d1, d2, d3, d4] => { results := [.lit (.bool false)], args := [d1, d2, d3, d4] }
  | _ => none }
def RadixSumsWrongFalsely : Prop := radixSumsRow.holds Tryd.pinned (OpenSpec.ofChange radixSumsWrong)

/-- 'moneyerlaw09.RadixRests': WHATEVER THE INPUT: true; the input reads as it did. -/
def radixRestsSpec : ChangeSpec := { name := "radixRests", fn := fun _ => fun
  | [d1, d2, d3, d4] => { results := [.lit (.bool true)], args := [d1, d2, d3, d4] }
  | _ => none }
def radixRestsRow : OpenClaim := { program := "ytiijjpjkfiookaadoor", sum := "b8a78b1b696a31c2b7501f6cc29508f8d65450f99ffde09d7251051ac5f14dec", func := "moneyer/moneyerlaw09.RadixRests", spec := "radixRests", inPlace := ["internal/bytealg.IndexByteString", "internal/bytealg.IndexString"], named := ["unicode/utf8.first", "unicode/utf8.acceptRanges", "internal/bytealg.MaxLen"], apart := false, laid := [("unicode/utf8.acceptRanges", laid_unicode_utf8_acceptRanges), ("unicode/utf8.first", laid_unicode_utf8_first)] }
def RadixRestsSaid : Prop := radixRestsRow.holds Tryd.pinned (OpenSpec.ofChange radixRestsSpec)

/-- ITS FALSE NEIGHBOUR: 'it returns false'. Refute it at one input. -/
def radixRestsWrong : ChangeSpec := { name := "radixRests", fn := fun _ => fun
  | [d1, d2, d3, d4] => { results := [.lit (.bool false)], args := [d1, d2, d3, d4] }
  | _ => none }
def RadixRestsWrongFalsely : Prop := radixRestsRow.holds Tryd.pinned (OpenSpec.ofChange radixRestsWrong)

/-- 'moneyerlaw09.RadixBack': WHATEVER THE INPUT: true; the input reads as it did. -/
def radixBackSpec : ChangeSpec := { name := "radixBack", fn := fun _ => fun
  | [d1, d2, d3, d4] => { results := [.lit (.bool true)], args := [d1, d2, d3, d4] }
  | _ => none }
def radixBackRow : OpenClaim := { program := "ytiijjpjkfiookaadoor", sum := "b8a78b1b696a31c2b7501f6cc29508f8d65450f99ffde09d7251051ac5f14dec", func := "moneyer/moneyerlaw09.RadixBack", spec := "radixBack", inPlace := ["internal/bytealg.IndexByteString", "internal/bytealg.IndexString"], named := ["unicode/utf8.first", "unicode/utf8.acceptRanges", "internal/bytealg.MaxLen"], apart := false, laid := [("unicode/utf8.acceptRanges", laid_unicode_utf8_acceptRanges), ("unicode/utf8.first", laid_unicode_utf8_first)] }
def RadixBackSaid : Prop := radixBackRow.holds Tryd.pinned (OpenSpec.ofChange radixBackSpec)

/-- ITS FALSE NEIGHBOUR: 'it returns false'. Refute it at one input. -/
def radixBackWrong : ChangeSpec := { name := "radixBack", fn := fun _ => fun
  | [d1, d2, d3, d4] => { results := [.lit (.bool false)], args := [d1, d2, d3, d4] }
  | _ => none }
def RadixBackWrongFalsely : Prop := radixBackRow.holds Tryd.pinned (OpenSpec.ofChange radixBackWrong)

/-- 'moneyerlaw10.FfxBack': WHATEVER THE INPUT: true; the input reads as it did. -/
def ffxBackSpec : ChangeSpec := { name := "ffxBack", fn := fun _ => fun
  | [d1, d2, d3, d4] => { results := [.lit (.bool true)], args := [d1, d2, d3, d4] }
  | _ => none }
def ffxBackRow : OpenClaim := { program := "ytiijjpjkfiookaadoor", sum := "b8a78b1b696a31c2b7501f6cc29508f8d65450f99ffde09d7251051ac5f14dec", func := "moneyer/moneyerlaw10.FfxBack", spec := "ffxBack", inPlace := ["internal/bytealg.IndexByteString", "internal/bytealg.IndexString", "internal/bytealg.MakeNoZero", "sync/atomic.LoadUint32", "(*internal/sync.Mutex).Lock", "internal/race.Disable", "sync/atomic.CompareAndSwapInt32", "internal/race.Enable", "internal/race.Acquire", "(*internal/sync.Mutex).lockSlow", "internal/sync.runtime_canSpin", "internal/sync.runtime_doSpin", "internal/sync.throw", "internal/sync.runtime_nanotime", "internal/sync.runtime_SemacquireMutex", "sync/atomic.AddInt32", "(*internal/sync.Mutex).Unlock", "internal/race.ReleaseMerge", "(*internal/sync.Mutex).unlockSlow", "internal/sync.fatal", "internal/sync.runtime_Semrelease", "sync/atomic.StoreUint32"], unfollowed := true, recurses := true, named := ["unicode/utf8.first", "unicode/utf8.acceptRanges", "internal/bytealg.MaxLen"], apart := false, laid := [("unicode/utf8.acceptRanges", laid_unicode_utf8_acceptRanges), ("unicode/utf8.first", laid_unicode_utf8_first)] }
def FfxBackSaid : Prop := ffxBackRow.holds Tryd.pinned (OpenSpec.ofChange ffxBackSpec)

/-- ITS FALSE NEIGHBOUR: 'it returns false'. Refute it at one input. -/
def ffxBackWrong : ChangeSpec := { name := "ffxBack", fn := fun _ => fun
  | [d1, d2, d3, d4] => { results := [.lit (.bool false)], args := [d1, d2, d3, d4] }
  | _ => none }
def FfxBackWrongFalsely : Prop := ffxBackRow.holds Tryd.pinned (OpenSpec.ofChange ffxBackWrong)

/-- 'moneyerlaw10.FfxAgain': WHATEVER THE INPUT: true; the input reads as it did. -/
def ffxAgainSpec : ChangeSpec := { name := "ffxAgain", fn := fun _ => fun
  | [d1, d2, d3, d4] => { results := [.lit (.bool true)], args := [d1, d2, d3, d4] }
  | _ => none }
def ffxAgainRow : OpenClaim := { program := "ytiijjpjkfiookaadoor", sum := "b8a78b1b696a31c2b7501f6cc29508f8d65450f99ffde09d7251051ac5f14dec", func := "moneyer/moneyerlaw10.FfxAgain", spec := "ffxAgain", inPlace := ["internal/bytealg.IndexByteString", "internal/bytealg.IndexString", "internal/bytealg.MakeNoZero", "sync/atomic.LoadUint32", "(*internal/sync.Mutex).Lock", "internal/race.Disable", "sync/atomic.CompareAndSwapInt32", "internal/race.Enable", "internal/race.Acquire", "(*internal/sync.Mutex).lockSlow", "internal/sync.runtime_canSpin", "internal/sync.runtime_doSpin", "internal/sync.throw", "internal/sync.runtime_nanotime", "internal/sync.runtime_SemacquireMutex", "sync/atomic.AddInt32", "(*internal/sync.Mutex).Unlock", "internal/race.ReleaseMerge", "(*internal/sync.Mutex).unlockSlow", "internal/sync.fatal", "internal/sync.runtime_Semrelease", "sync/atomic.StoreUint32"], unfollowed := true, recurses := true, named := ["unicode/utf8.first", "unicode/utf8.acceptRanges", "internal/bytealg.MaxLen"], apart := false, laid := [("unicode/utf8.acceptRanges", laid_unicode_utf8_acceptRanges), ("unicode/utf8.first", laid_unicode_utf8_first)] }
def FfxAgainSaid : Prop := ffxAgainRow.holds Tryd.pinned (OpenSpec.ofChange ffxAgainSpec)

/-- ITS FALSE NEIGHBOUR: 'it returns false'. Refute it at one input. -/
def ffxAgainWrong : ChangeSpec := { name := "ffxAgain", fn := fun _ => fun
  | [d1, d2, d3, d4] => { results := [.lit (.bool false)], args := [d1, d2, d3, d4] }
  | _ => none }
def FfxAgainWrongFalsely : Prop := ffxAgainRow.holds Tryd.pinned (OpenSpec.ofChange ffxAgainWrong)

/-- 'moneyerlaw10.FfxRounds': WHATEVER THE INPUT: true; the input reads as it did. -/
def ffxRoundsSpec : ChangeSpec := { name := "ffxRounds", fn := fun _ => fun
  | [d1, d2, d3] => { results := [.lit (.bool true)], args := [d1, d2, d3] }
  | _ => none }
def ffxRoundsRow : OpenClaim := { program := "ytiijjpjkfiookaadoor", sum := "b8a78b1b696a31c2b7501f6cc29508f8d65450f99ffde09d7251051ac5f14dec", func := "moneyer/moneyerlaw10.FfxRounds", spec := "ffxRounds", inPlace := ["internal/bytealg.IndexByteString", "internal/bytealg.IndexString", "internal/bytealg.MakeNoZero", "sync/atomic.LoadUint32", "(*internal/sync.Mutex).Lock", "internal/race.Disable", "sync/atomic.CompareAndSwapInt32", "internal/race.Enable", "internal/race.Acquire", "(*internal/sync.Mutex).lockSlow", "internal/sync.runtime_canSpin", "internal/sync.runtime_doSpin", "internal/sync.throw", "internal/sync.runtime_nanotime", "internal/sync.runtime_SemacquireMutex", "sync/atomic.AddInt32", "(*internal/sync.Mutex).Unlock", "internal/race.ReleaseMerge", "(*internal/sync.Mutex).unlockSlow", "internal/sync.fatal", "internal/sync.runtime_Semrelease", "sync/atomic.StoreUint32"], unfollowed := true, recurses := true, named := ["unicode/utf8.first", "unicode/utf8.acceptRanges", "internal/bytealg.MaxLen"], apart := false, laid := [("unicode/utf8.acceptRanges", laid_unicode_utf8_acceptRanges), ("unicode/utf8.first", laid_unicode_utf8_first)] }
def FfxRoundsSaid : Prop := ffxRoundsRow.holds Tryd.pinned (OpenSpec.ofChange ffxRoundsSpec)

/-- ITS FALSE NEIGHBOUR: 'it returns false'. Refute it at one input. -/
def ffxRoundsWrong : ChangeSpec := { name := "ffxRounds", fn := fun _ => fun
  | [d1, d2, d3] => { results := [.lit (.bool false)], args := [d1, d2, d3] }
  | _ => none }
def FfxRoundsWrongFalsely : Prop := ffxRoundsRow.holds Tryd.pinned (OpenSpec.ofChange ffxRoundsWrong)

/- THE SECOND FORM. 'bulk': how many values and letters a reading holds, each counted each time it is reached (what is shared counts as often as it is met; a slice's spare places count too). A statement '..UptoSaid' is the law's where the arguments, and the package variables that the reading takes, are together of bulk at most 1048576: NARROWER than '..Said'. Prove '..Said' where nothing that the law and all that it calls make is longer than what came in: it says more and counts as full. Else prove '..UptoSaid'. A law counts once. -/
mutual
def uptoBulk {H : Type} : DataW H → Nat
  | .lit (.string bytes) => bytes.length + 1
  | .lit _ => 1
  | .nil => 1
  | .ptr d => uptoBulk d + 1
  | .slice elems spare => uptoBulkAll elems + uptoBulkAll spare + 1
  | .agg parts => uptoBulkAll parts + 1
  | .iface _ d => uptoBulk d + 1
  | .map entries => uptoBulkEntries entries + 1
  | .held _ => 1
def uptoBulkAll {H : Type} : List (DataW H) → Nat
  | [] => 0
  | d :: r => uptoBulk d + uptoBulkAll r
def uptoBulkEntries {H : Type} : List (Lit × DataW H) → Nat
  | [] => 0
  | x :: r => uptoBulkEntry x + uptoBulkEntries r
def uptoBulkEntry {H : Type} : Lit × DataW H → Nat
  | (.string bytes, d) => bytes.length + uptoBulk d + 1
  | (_, d) => uptoBulk d + 1
 end
def uptoSmall : (H : Type) → List (DataW H) → Bool := fun _ ds => decide (uptoBulkAll ds ≤ 1048576)
def OpenSpec.upto (s : _root_.Go.ChangeSpec) : _root_.Go.OpenSpec := { _root_.Go.OpenSpec.ofChange s with cond := some uptoSmall }

/-- 'moneyerlaw09.RadixNumerals', WHERE WHAT IT READS IS OF BULK AT MOST 1048576: true; the input reads as it did. -/
def radixNumeralsUptoRow : OpenClaim := { program := "ytiijjpjkfiookaadoor", sum := "b8a78b1b696a31c2b7501f6cc29508f8d65450f99ffde09d7251051ac5f14dec", func := "moneyer/moneyerlaw09.RadixNumerals", spec := "radixNumerals", inPlace := ["internal/bytealg.IndexByteString", "internal/bytealg.IndexString"], named := ["unicode/utf8.first", "unicode/utf8.acceptRanges", "internal/bytealg.MaxLen"], apart := false, laid := [("unicode/utf8.acceptRanges", laid_unicode_utf8_acceptRanges), ("unicode/utf8.first", laid_unicode_utf8_first)], narrowed := true }
def RadixNumeralsUptoSaid : Prop := radixNumeralsUptoRow.holds Tryd.pinned (OpenSpec.upto radixNumeralsSpec)

/-- 'moneyerlaw09.RadixWidths', WHERE WHAT IT READS IS OF BULK AT MOST 1048576: true; the input reads as it did. -/
def radixWidthsUptoRow : OpenClaim := { program := "ytiijjpjkfiookaadoor", sum := "b8a78b1b696a31c2b7501f6cc29508f8d65450f99ffde09d7251051ac5f14dec", func := "moneyer/moneyerlaw09.RadixWidths", spec := "radixWidths", inPlace := ["internal/bytealg.IndexByteString", "internal/bytealg.IndexString"], named := ["unicode/utf8.first", "unicode/utf8.acceptRanges", "internal/bytealg.MaxLen"], apart := false, laid := [("unicode/utf8.acceptRanges", laid_unicode_utf8_acceptRanges), ("unicode/utf8.first", laid_unicode_utf8_first)], narrowed := true }
def RadixWidthsUptoSaid : Prop := radixWidthsUptoRow.holds Tryd.pinned (OpenSpec.upto radixWidthsSpec)

/-- 'moneyerlaw09.RadixGoes', WHERE WHAT IT READS IS OF BULK AT MOST 1048576: true; the input reads as it did. -/
def radixGoesUptoRow : OpenClaim := { program := "ytiijjpjkfiookaadoor", sum := "b8a78b1b696a31c2b7501f6cc29508f8d65450f99ffde09d7251051ac5f14dec", func := "moneyer/moneyerlaw09.RadixGoes", spec := "radixGoes", inPlace := ["internal/bytealg.IndexByteString", "internal/bytealg.IndexString"], named := ["unicode/utf8.first", "unicode/utf8.acceptRanges", "internal/bytealg.MaxLen"], apart := false, laid := [("unicode/utf8.acceptRanges", laid_unicode_utf8_acceptRanges), ("unicode/utf8.first", laid_unicode_utf8_first)], narrowed := true }
def RadixGoesUptoSaid : Prop := radixGoesUptoRow.holds Tryd.pinned (OpenSpec.upto radixGoesSpec)

/-- 'moneyerlaw09.RadixSums', WHERE WHAT IT READS IS OF BULK AT MOST 1048576: true; the input reads as it did. -/
def radixSumsUptoRow : OpenClaim := { program := "ytiijjpjkfiookaadoor", sum := "b8a78b1b696a31c2b7501f6cc29508f8d65450f99ffde09d7251051ac5f14dec", func := "moneyer/moneyerlaw09.RadixSums", spec := "radixSums", inPlace := ["internal/bytealg.IndexByteString", "internal/bytealg.IndexString"], named := ["unicode/utf8.first", "unicode/utf8.acceptRanges", "internal/bytealg.MaxLen"], apart := false, laid := [("unicode/utf8.acceptRanges", laid_unicode_utf8_acceptRanges), ("unicode/utf8.first", laid_unicode_utf8_first)], narrowed := true }
def RadixSumsUptoSaid : Prop := radixSumsUptoRow.holds Tryd.pinned (OpenSpec.upto radixSumsSpec)

/-- 'moneyerlaw09.RadixRests', WHERE WHAT IT READS IS OF BULK AT MOST 1048576: true; the input reads as it did. -/
def radixRestsUptoRow : OpenClaim := { program := "ytiijjpjkfiookaadoor", sum := "b8a78b1b696a31c2b7501f6cc29508f8d65450f99ffde09d7251051ac5f14dec", func := "moneyer/moneyerlaw09.RadixRests", spec := "radixRests", inPlace := ["internal/bytealg.IndexByteString", "internal/bytealg.IndexString"], named := ["unicode/utf8.first", "unicode/utf8.acceptRanges", "internal/bytealg.MaxLen"], apart := false, laid := [("unicode/utf8.acceptRanges", laid_unicode_utf8_acceptRanges), ("unicode/utf8.first", laid_unicode_utf8_first)], narrowed := true }
def RadixRestsUptoSaid : Prop := radixRestsUptoRow.holds Tryd.pinned (OpenSpec.upto radixRestsSpec)

/-- 'moneyerlaw09.RadixBack', WHERE WHAT IT READS IS OF BULK AT MOST 1048576: true; the input reads as it did. -/
def radixBackUptoRow : OpenClaim := { program := "ytiijjpjkfiookaadoor", sum := "b8a78b1b696a31c2b7501f6cc29508f8d65450f99ffde09d7251051ac5f14dec", func := "moneyer/moneyerlaw09.RadixBack", spec := "radixBack", inPlace := ["internal/bytealg.IndexByteString", "internal/bytealg.IndexString"], named := ["unicode/utf8.first", "unicode/utf8.acceptRanges", "internal/bytealg.MaxLen"], apart := false, laid := [("unicode/utf8.acceptRanges", laid_unicode_utf8_acceptRanges), ("unicode/utf8.first", laid_unicode_utf8_first)], narrowed := true }
def RadixBackUptoSaid : Prop := radixBackUptoRow.holds Tryd.pinned (OpenSpec.upto radixBackSpec)

/-- 'moneyerlaw10.FfxBack', WHERE WHAT IT READS IS OF BULK AT MOST 1048576: true; the input reads as it did. -/
def ffxBackUptoRow : OpenClaim := { program := "ytiijjpjkfiookaadoor", sum := "b8a78b1b696a31c2b7501f6cc29508f8d65450f99ffde09d7251051ac5f14dec", func := "moneyer/moneyerlaw10.FfxBack", spec := "ffxBack", inPlace := ["internal/bytealg.IndexByteString", "internal/bytealg.IndexString", "internal/bytealg.MakeNoZero", "sync/atomic.LoadUint32", "(*internal/sync.Mutex).Lock", "internal/race.Disable", "sync/atomic.CompareAndSwapInt32", "internal/race.Enable", "internal/race.Acquire", "(*internal/sync.Mutex).lockSlow", "internal/sync.runtime_canSpin", "internal/sync.runtime_doSpin", "internal/sync.throw", "internal/sync.runtime_nanotime", "internal/sync.runtime_SemacquireMutex", "sync/atomic.AddInt32", "(*internal/sync.Mutex).Unlock", "internal/race.ReleaseMerge", "(*internal/sync.Mutex).unlockSlow", "internal/sync.fatal", "internal/sync.runtime_Semrelease", "sync/atomic.StoreUint32"], unfollowed := true, recurses := true, named := ["unicode/utf8.first", "unicode/utf8.acceptRanges", "internal/bytealg.MaxLen"], apart := false, laid := [("unicode/utf8.acceptRanges", laid_unicode_utf8_acceptRanges), ("unicode/utf8.first", laid_unicode_utf8_first)], narrowed := true }
def FfxBackUptoSaid : Prop := ffxBackUptoRow.holds Tryd.pinned (OpenSpec.upto ffxBackSpec)

/-- 'moneyerlaw10.FfxAgain', WHERE WHAT IT READS IS OF BULK AT MOST 1048576: true; the input reads as it did. -/
def ffxAgainUptoRow : OpenClaim := { program := "ytiijjpjkfiookaadoor", sum := "b8a78b1b696a31c2b7501f6cc29508f8d65450f99ffde09d7251051ac5f14dec", func := "moneyer/moneyerlaw10.FfxAgain", spec := "ffxAgain", inPlace := ["internal/bytealg.IndexByteString", "internal/bytealg.IndexString", "internal/bytealg.MakeNoZero", "sync/atomic.LoadUint32", "(*internal/sync.Mutex).Lock", "internal/race.Disable", "sync/atomic.CompareAndSwapInt32", "internal/race.Enable", "internal/race.Acquire", "(*internal/sync.Mutex).lockSlow", "internal/sync.runtime_canSpin", "internal/sync.runtime_doSpin", "internal/sync.throw", "internal/sync.runtime_nanotime", "internal/sync.runtime_SemacquireMutex", "sync/atomic.AddInt32", "(*internal/sync.Mutex).Unlock", "internal/race.ReleaseMerge", "(*internal/sync.Mutex).unlockSlow", "internal/sync.fatal", "internal/sync.runtime_Semrelease", "sync/atomic.StoreUint32"], unfollowed := true, recurses := true, named := ["unicode/utf8.first", "unicode/utf8.acceptRanges", "internal/bytealg.MaxLen"], apart := false, laid := [("unicode/utf8.acceptRanges", laid_unicode_utf8_acceptRanges), ("unicode/utf8.first", laid_unicode_utf8_first)], narrowed := true }
def FfxAgainUptoSaid : Prop := ffxAgainUptoRow.holds Tryd.pinned (OpenSpec.upto ffxAgainSpec)

/-- 'moneyerlaw10.FfxRounds', WHERE WHAT IT READS IS OF BULK AT MOST 1048576: true; the input reads as it did. -/
def ffxRoundsUptoRow : OpenClaim := { program := "ytiijjpjkfiookaadoor", sum := "b8a78b1b696a31c2b7501f6cc29508f8d65450f99ffde09d7251051ac5f14dec", func := "moneyer/moneyerlaw10.FfxRounds", spec := "ffxRounds", inPlace := ["internal/bytealg.IndexByteString", "internal/bytealg.IndexString", "internal/bytealg.MakeNoZero", "sync/atomic.LoadUint32", "(*internal/sync.Mutex).Lock", "internal/race.Disable", "sync/atomic.CompareAndSwapInt32", "internal/race.Enable", "internal/race.Acquire", "(*internal/sync.Mutex).lockSlow", "internal/sync.runtime_canSpin", "internal/sync.runtime_doSpin", "internal/sync.throw", "internal/sync.runtime_nanotime", "internal/sync.runtime_SemacquireMutex", "sync/atomic.AddInt32", "(*internal/sync.Mutex).Unlock", "internal/race.ReleaseMerge", "(*internal/sync.Mutex).unlockSlow", "internal/sync.fatal", "internal/sync.runtime_Semrelease", "sync/atomic.StoreUint32"], unfollowed := true, recurses := true, named := ["unicode/utf8.first", "unicode/utf8.acceptRanges", "internal/bytealg.MaxLen"], apart := false, laid := [("unicode/utf8.acceptRanges", laid_unicode_utf8_acceptRanges), ("unicode/utf8.first", laid_unicode_utf8_first)], narrowed := true }
def FfxRoundsUptoSaid : Prop := ffxRoundsUptoRow.holds Tryd.pinned (OpenSpec.upto ffxRoundsSpec)

end Rows
end Go.Proofs.YtiijjpjkfiookaaDoor
