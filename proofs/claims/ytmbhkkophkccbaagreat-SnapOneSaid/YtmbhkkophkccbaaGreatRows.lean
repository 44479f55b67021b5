/-
  No cell of these rows narrows 'for every input' (looked for: loops, veiled, ifaces, maps, wideKeys, modest, calm, conditions, laid).
  DERIVED. THE GIVEN ROWS OF THIS SEAT. 9 by the template 'for every input the law returns true; each argument reads behind the call as it read before'; 0 by the template 'total and deterministic' (their statements: YtmbhkkophkccbaaGreatTotals.lean).
  GIVEN WITH THE SEED: the statements are not yours to turn. If you find one false, say at which input.
  Laid BY PROGRAM, IN A SANDBOX (cutbox-rows.mjs): the forced cells as the released guide's own fill.sh prints them over the translation ab7d672f056fc0bf… (all of the seat's roots in one cut). By AI agents, Wed Nov 11 2026. No macro, syntax, notation, axiom, sorry.
-/
import Derived.Test.YtmbhkkophkccbaaGreatChecked
import GoSem.Claim
import GoSem.ClaimJoined
import GoSem.ClaimMapViews
import Derived.JoinedTies
import Derived.KernelRfl
namespace Go.Proofs.YtmbhkkophkccbaaGreat
/- THE CELL 'sum', in the pinned program and in every row, IS THE sha256 OF THE DUMP (.gsa) THAT YtmbhkkophkccbaaGreatProg.lean LOADS. Nothing in Lean hashes anything: it is a label: what it is worth is what the hold of that sum in a sandbox is worth. -/
noncomputable def Tryz.pinned : Pinned := { name := "ytmbhkkophkccbaagreat", sum := "ab7d672f056fc0bfa86bbcc2b08b8d93b80c9eed41de80e688085f41e6522dc0", checked := Tryz.checked }
namespace Rows
def none {H : Type} : Left H := { results := [], args := [] }

/-- 'treillagelaw10.FindTells': WHATEVER THE INPUT: true; the input reads as it did. -/
def findTellsSpec : ChangeSpec := { name := "findTells", fn := fun _ => fun
  | [d1, d2, d3] => { results := [.lit (.bool true)], args := [d1, d2, d3] }
  | _ => none }
def findTellsRow : OpenClaim := { program := "ytmbhkkophkccbaagreat", sum := "ab7d672f056fc0bfa86bbcc2b08b8d93b80c9eed41de80e688085f41e6522dc0", func := "treillage/treillagelaw10.FindTells", spec := "findTells", inPlace := ["internal/bytealg.IndexByteString", "slices.overlaps[int]", "internal/bytealg.IndexString"], unfollowed := true, recurses := true, named := ["internal/bytealg.MaxLen"], plainKeys := false, apart := false }
def FindTellsSaid : Prop := findTellsRow.holds Tryz.pinned (OpenSpec.ofChange findTellsSpec)

/-- ITS FALSE NEIGHBOUR: 'it returns false'. Refute it at one input. -/
def findTellsWrong : ChangeSpec := { name := "findTells", fn := fun _ => fun
  | [d1, d2, d3] => { results := [.lit (.bool false)], args := [d1, d2, d3] }
  | _ => none }
def FindTellsWrongFalsely : Prop := findTellsRow.holds Tryz.pinned (OpenSpec.ofChange findTellsWrong)

/-- 'treillagelaw10.FindTexts': WHATEVER THE INPUT: true; the input reads as it did. -/
def findTextsSpec : ChangeSpec := { name := "findTexts", fn := fun _ => fun
  | [d1, d2] => { results := [.lit (.bool true)], args := [d1, d2] }
  | _ => none }
def findTextsRow : OpenClaim := { program := "ytmbhkkophkccbaagreat", sum := "ab7d672f056fc0bfa86bbcc2b08b8d93b80c9eed41de80e688085f41e6522dc0", func := "treillage/treillagelaw10.FindTexts", spec := "findTexts", inPlace := ["internal/bytealg.IndexByteString", "slices.overlaps[int]", "internal/bytealg.IndexString"], unfollowed := true, recurses := true, named := ["internal/bytealg.MaxLen"], plainKeys := false, apart := false }
def FindTextsSaid : Prop := findTextsRow.holds Tryz.pinned (OpenSpec.ofChange findTextsSpec)

/-- ITS FALSE NEIGHBOUR: 'it returns false'. Refute it at one input. -/
def findTextsWrong : ChangeSpec := { name := "findTexts", fn := fun _ => fun
  | [d1, d2] => { results := [.lit (.bool false)], args := [d1, d2] }
  | _ => none }
def FindTextsWrongFalsely : Prop := findTextsRow.holds Tryz.pinned (OpenSpec.ofChange findTextsWrong)

/-- 'treillagelaw13.SnapOf': WHATEVER THE INPUT: true; the input reads as it did. -/
def snapOfSpec : ChangeSpec := { name := "snapOf", fn := fun _ => fun
  | [d1, d2] => { results := [.lit (.bool true)], args := [d1, d2] }
  | _ => none }
def snapOfRow : OpenClaim := { program := "ytmbhkkophkccbaagreat", sum := "ab7d672f056fc0bfa86bbcc2b08b8d93b80c9eed41de80e688085f41e6522dc0", func := "treillage/treillagelaw13.SnapOf", spec := "snapOf", inPlace := ["internal/bytealg.IndexByteString", "slices.overlaps[int]", "internal/abi.NoEscape", "internal/bytealg.IndexString", "sync/atomic.LoadUint32", "(*internal/sync.Mutex).Lock", "internal/race.Disable", "sync/atomic.CompareAndSwapInt32", "internal/race.Enable", "internal/race.Acquire", "(*internal/sync.Mutex).lockSlow", "internal/sync.runtime_canSpin", "internal/sync.runtime_doSpin", "internal/sync.throw", "internal/sync.runtime_nanotime", "internal/sync.runtime_SemacquireMutex", "sync/atomic.AddInt32", "(*internal/sync.Mutex).Unlock", "internal/race.ReleaseMerge", "(*internal/sync.Mutex).unlockSlow", "internal/sync.fatal", "internal/sync.runtime_Semrelease", "sync/atomic.StoreUint32"], unfollowed := true, recurses := true, named := ["internal/bytealg.MaxLen"], plainKeys := false, apart := false }
def SnapOfSaid : Prop := snapOfRow.holds Tryz.pinned (OpenSpec.ofChange snapOfSpec)

/-- ITS FALSE NEIGHBOUR: 'it returns false'. Refute it at one input. -/
def snapOfWrong : ChangeSpec := { name := "snapOf", fn := fun _ => fun
  | [d1, d2] => { results := [.lit (.bool false)], args := [d1, d2] }
  | _ => none }
def SnapOfWrongFalsely : Prop := snapOfRow.holds Tryz.pinned (OpenSpec.ofChange snapOfWrong)

/-- 'treillagelaw13.SnapKids': WHATEVER THE INPUT: true; the input reads as it did. -/
def snapKidsSpec : ChangeSpec := { name := "snapKids", fn := fun _ => fun
  | [d1, d2] => { results := [.lit (.bool true)], args := [d1, d2] }
  | _ => none }
def snapKidsRow : OpenClaim := { program := "ytmbhkkophkccbaagreat", sum := "ab7d672f056fc0bfa86bbcc2b08b8d93b80c9eed41de80e688085f41e6522dc0", func := "treillage/treillagelaw13.SnapKids", spec := "snapKids", inPlace := ["internal/bytealg.IndexByteString", "slices.overlaps[int]", "internal/abi.NoEscape", "internal/bytealg.IndexString", "sync/atomic.LoadUint32", "(*internal/sync.Mutex).Lock", "internal/race.Disable", "sync/atomic.CompareAndSwapInt32", "internal/race.Enable", "internal/race.Acquire", "(*internal/sync.Mutex).lockSlow", "internal/sync.runtime_canSpin", "internal/sync.runtime_doSpin", "internal/sync.throw", "internal/sync.runtime_nanotime", "internal/sync.runtime_SemacquireMutex", "sync/atomic.AddInt32", "(*internal/sync.Mutex).Unlock", "internal/race.ReleaseMerge", "(*internal/sync.Mutex).unlockSlow", "internal/sync.fatal", "internal/sync.runtime_Semrelease", "sync/atomic.StoreUint32"], unfollowed := true, recurses := true, named := ["internal/bytealg.MaxLen"], plainKeys := false, apart := false }
def SnapKidsSaid : Prop := snapKidsRow.holds Tryz.pinned (OpenSpec.ofChange snapKidsSpec)

/-- ITS FALSE NEIGHBOUR: 'it returns false'. Refute it at one input. -/
def snapKidsWrong : ChangeSpec := { name := "snapKids", fn := fun _ => fun
  | [d1, d2] => { results := [.lit (.bool false)], args := [d1, d2] }
  | _ => none }
def SnapKidsWrongFalsely : Prop := snapKidsRow.holds Tryz.pinned (OpenSpec.ofChange snapKidsWrong)

/-- 'treillagelaw13.SnapErrors': WHATEVER THE INPUT: true; the input reads as it did. -/
def snapErrorsSpec : ChangeSpec := { name := "snapErrors", fn := fun _ => fun
  | [d1, d2] => { results := [.lit (.bool true)], args := [d1, d2] }
  | _ => none }
def snapErrorsRow : OpenClaim := { program := "ytmbhkkophkccbaagreat", sum := "ab7d672f056fc0bfa86bbcc2b08b8d93b80c9eed41de80e688085f41e6522dc0", func := "treillage/treillagelaw13.SnapErrors", spec := "snapErrors", inPlace := ["internal/bytealg.IndexByteString", "slices.overlaps[int]", "internal/abi.NoEscape", "internal/bytealg.IndexString", "sync/atomic.LoadUint32", "(*internal/sync.Mutex).Lock", "internal/race.Disable", "sync/atomic.CompareAndSwapInt32", "internal/race.Enable", "internal/race.Acquire", "(*internal/sync.Mutex).lockSlow", "internal/sync.runtime_canSpin", "internal/sync.runtime_doSpin", "internal/sync.throw", "internal/sync.runtime_nanotime", "internal/sync.runtime_SemacquireMutex", "sync/atomic.AddInt32", "(*internal/sync.Mutex).Unlock", "internal/race.ReleaseMerge", "(*internal/sync.Mutex).unlockSlow", "internal/sync.fatal", "internal/sync.runtime_Semrelease", "sync/atomic.StoreUint32"], unfollowed := true, recurses := true, named := ["internal/bytealg.MaxLen"], plainKeys := false, apart := false }
def SnapErrorsSaid : Prop := snapErrorsRow.holds Tryz.pinned (OpenSpec.ofChange snapErrorsSpec)

/-- ITS FALSE NEIGHBOUR: 'it returns false'. Refute it at one input. -/
def snapErrorsWrong : ChangeSpec := { name := "snapErrors", fn := fun _ => fun
  | [d1, d2] => { results := [.lit (.bool false)], args := [d1, d2] }
  | _ => none }
def SnapErrorsWrongFalsely : Prop := snapErrorsRow.holds Tryz.pinned (OpenSpec.ofChange snapErrorsWrong)

/-- 'treillagelaw13.SnapOne': WHATEVER THE INPUT: true; the input reads as it did. -/
def snapOneSpec : ChangeSpec := { name := "snapOne", fn := fun _ => fun
  | [d1, d2] => { results := [.lit (.bool true)], args := [d1, d2] }
  | _ => none }
def snapOneRow : OpenClaim := { program := "ytmbhkkophkccbaagreat", sum := "ab7d672f056fc0bfa86bbcc2b08b8d93b80c9eed41de80e688085f41e6522dc0", func := "treillage/treillagelaw13.SnapOne", spec := "snapOne", inPlace := ["internal/bytealg.IndexByteString", "slices.overlaps[int]", "internal/abi.NoEscape", "internal/bytealg.IndexString", "sync/atomic.LoadUint32", "(*internal/sync.Mutex).Lock", "internal/race.Disable", "sync/atomic.CompareAndSwapInt32", "internal/race.Enable", "internal/race.Acquire", "(*internal/sync.Mutex).lockSlow", "internal/sync.runtime_canSpin", "internal/sync.runtime_doSpin", "internal/sync.throw", "internal/sync.runtime_nanotime", "internal/sync.runtime_SemacquireMutex", "sync/atomic.AddInt32", "(*internal/sync.Mutex).Unlock", "internal/race.ReleaseMerge", "(*internal/sync.Mutex).unlockSlow", "internal/sync.fatal", "internal/sync.runtime_Semrelease", "sync/atomic.StoreUint32"], unfollowed := true, recurses := true, named := ["internal/bytealg.MaxLen"], plainKeys := false, apart := false }
def SnapOneSaid : Prop := snapOneRow.holds Tryz.pinned (OpenSpec.ofChange snapOneSpec)

/-- ITS FALSE NEIGHBOUR: 'it returns false'. Refute it at one input. -/
def snapOneWrong : ChangeSpec := { name := "snapOne", fn := fun _ => fun
  | [d1, d2] => { results := [.lit (.bool false)], args := [d1, d2] }
  | _ => none }
def SnapOneWrongFalsely : Prop := snapOneRow.holds Tryz.pinned (OpenSpec.ofChange snapOneWrong)

/-- 'treillagelaw20.HistoryTwice': WHATEVER THE INPUT: true; the input reads as it did. -/
def historyTwiceSpec : ChangeSpec := { name := "historyTwice", fn := fun _ => fun
  | [d1, d2, d3, d4] => { results := [.lit (.bool true)], args := [d1, d2, d3, d4] }
  | _ => none }
def historyTwiceRow : OpenClaim := { program := "ytmbhkkophkccbaagreat", sum := "ab7d672f056fc0bfa86bbcc2b08b8d93b80c9eed41de80e688085f41e6522dc0", func := "treillage/treillagelaw20.HistoryTwice", spec := "historyTwice", inPlace := ["internal/bytealg.IndexByteString", "slices.overlaps[int]", "internal/abi.NoEscape", "internal/bytealg.IndexString", "sync/atomic.LoadUint32", "(*internal/sync.Mutex).Lock", "internal/race.Disable", "sync/atomic.CompareAndSwapInt32", "internal/race.Enable", "internal/race.Acquire", "(*internal/sync.Mutex).lockSlow", "internal/sync.runtime_canSpin", "internal/sync.runtime_doSpin", "internal/sync.throw", "internal/sync.runtime_nanotime", "internal/sync.runtime_SemacquireMutex", "sync/atomic.AddInt32", "(*internal/sync.Mutex).Unlock", "internal/race.ReleaseMerge", "(*internal/sync.Mutex).unlockSlow", "internal/sync.fatal", "internal/sync.runtime_Semrelease", "sync/atomic.StoreUint32"], unfollowed := true, recurses := true, named := ["internal/bytealg.MaxLen"], plainKeys := false, apart := false }
def HistoryTwiceSaid : Prop := historyTwiceRow.holds Tryz.pinned (OpenSpec.ofChange historyTwiceSpec)

/-- ITS FALSE NEIGHBOUR: 'it returns false'. Refute it at one input. -/
def historyTwiceWrong : ChangeSpec := { name := "historyTwice", fn := fun _ => fun
  | [d1, d2, d3, d4] => { results := [.lit (.bool false)], args := [d1, d2, d3, d4] }
  | _ => none }
def HistoryTwiceWrongFalsely : Prop := historyTwiceRow.holds Tryz.pinned (OpenSpec.ofChange historyTwiceWrong)

/-- 'treillagelaw20.HistoryNone': WHATEVER THE INPUT: true; the input reads as it did. -/
def historyNoneSpec : ChangeSpec := { name := "historyNone", fn := fun _ => fun
  | [d1, d2, d3] => { results := [.lit (.bool true)], args := [d1, d2, d3] }
  | _ => none }
def historyNoneRow : OpenClaim := { program := "ytmbhkkophkccbaagreat", sum := "ab7d672f056fc0bfa86bbcc2b08b8d93b80c9eed41de80e688085f41e6522dc0", func := "treillage/treillagelaw20.HistoryNone", spec := "historyNone", inPlace := ["internal/bytealg.IndexByteString", "slices.overlaps[int]", "internal/abi.NoEscape", "internal/bytealg.IndexString", "sync/atomic.LoadUint32", "(*internal/sync.Mutex).Lock", "internal/race.Disable", "sync/atomic.CompareAndSwapInt32", "internal/race.Enable", "internal/race.Acquire", "(*internal/sync.Mutex).lockSlow", "internal/sync.runtime_canSpin", "internal/sync.runtime_doSpin", "internal/sync.throw", "internal/sync.runtime_nanotime", "internal/sync.runtime_SemacquireMutex", "sync/atomic.AddInt32", "(*internal/sync.Mutex).Unlock", "internal/race.ReleaseMerge", "(*internal/sync.Mutex).unlockSlow", "internal/sync.fatal", "internal/sync.runtime_Semrelease", "sync/atomic.StoreUint32"], unfollowed := true, recurses := true, named := ["internal/bytealg.MaxLen"], plainKeys := false, apart := false }
def HistoryNoneSaid : Prop := historyNoneRow.holds Tryz.pinned (OpenSpec.ofChange historyNoneSpec)

/-- ITS FALSE NEIGHBOUR: 'it returns false'. Refute it at one input. -/
def historyNoneWrong : ChangeSpec := { name := "historyNone", fn := fun _ => fun
  | [d1, d2, d3] => { results := [.lit (.bool false)], args := [d1, d2, d3] }
  | _ => none }
def HistoryNoneWrongFalsely : Prop := historyNoneRow.holds Tryz.pinned (OpenSpec.ofChange historyNoneWrong)

/-- 'treillagelaw20.HistoryStates': WHATEVER THE INPUT: true; the input reads as it did. -/
def historyStatesSpec : ChangeSpec := { name := "historyStates", fn := fun _ => fun
  | [d1, d2] => { results := [.lit (.bool true)], args := [d1, d2] }
  | _ => none }
def historyStatesRow : OpenClaim := { program := "ytmbhkkophkccbaagreat", sum := "ab7d672f056fc0bfa86bbcc2b08b8d93b80c9eed41de80e688085f41e6522dc0", func := "treillage/treillagelaw20.HistoryStates", spec := "historyStates", inPlace := ["internal/bytealg.IndexByteString", "slices.overlaps[int]", "internal/abi.NoEscape", "internal/bytealg.IndexString", "sync/atomic.LoadUint32", "(*internal/sync.Mutex).Lock", "internal/race.Disable", "sync/atomic.CompareAndSwapInt32", "internal/race.Enable", "internal/race.Acquire", "(*internal/sync.Mutex).lockSlow", "internal/sync.runtime_canSpin", "internal/sync.runtime_doSpin", "internal/sync.throw", "internal/sync.runtime_nanotime", "internal/sync.runtime_SemacquireMutex", "sync/atomic.AddInt32", "(*internal/sync.Mutex).Unlock", "internal/race.ReleaseMerge", "(*internal/sync.Mutex).unlockSlow", "internal/sync.fatal", "internal/sync.runtime_Semrelease", "sync/atomic.StoreUint32"], unfollowed := true, recurses := true, named := ["internal/bytealg.MaxLen"], plainKeys := false, apart := false }
def HistoryStatesSaid : Prop := historyStatesRow.holds Tryz.pinned (OpenSpec.ofChange historyStatesSpec)

/-- ITS FALSE NEIGHBOUR: 'it returns false'. Refute it at one input. -/
def historyStatesWrong : ChangeSpec := { name := "historyStates", fn := fun _ => fun
  | [d1, d2] => { results := [.lit (.bool false)], args := [d1, d2] }
  | _ => none }
def HistoryStatesWrongFalsely : Prop := historyStatesRow.holds Tryz.pinned (OpenSpec.ofChange historyStatesWrong)

/- THE SECOND FORM. 'bulk': how many values and letters a reading holds, each counted each time it is reached (what is shared counts as often as it is met; a slice's spare places count too). A statement '..UptoSaid' is the law's where the arguments, and the package variables that the reading takes, are together of bulk at most 1048576: NARROWER than '..Said'. Prove '..Said' where nothing that the law and all that it calls make is longer than what came in: it says more and counts as full. Else prove '..UptoSaid'. A law counts once. -/
mutual
def uptoBulk {H : Type} : DataW H → Nat
  | .lit (.string bytes) => bytes.length + 1
  | .lit _ => 1
  | .nil => 1
  | .ptr d => uptoBulk d + 1
  | .slice elems spare => uptoBulkAll elems + uptoBulkAll spare + 1
  | .agg parts => uptoBulkAll parts + 1
  | .iface _ d => uptoBulk d + 1
  | .map entries => uptoBulkEntries entries + 1
  | .held _ => 1
def uptoBulkAll {H : Type} : List (DataW H) → Nat
  | [] => 0
  | d :: r => uptoBulk d + uptoBulkAll r
def uptoBulkEntries {H : Type} : List (Lit × DataW H) → Nat
  | [] => 0
  | x :: r => uptoBulkEntry x + uptoBulkEntries r
def uptoBulkEntry {H : Type} : Lit × DataW H → Nat
  | (.string bytes, d) => bytes.length + uptoBulk d + 1
  | (_, d) => uptoBulk d + 1
 end
def uptoSmall : (H : Type) → List (DataW H) → Bool := fun _ ds => decide (uptoBulkAll ds ≤ 1048576)
def OpenSpec.upto (s : _root_.Go.ChangeSpec) : _root_.Go.OpenSpec := { _root_.Go.OpenSpec.ofChange s with cond := some uptoSmall }

/-- 'treillagelaw10.FindTells', WHERE WHAT IT READS IS OF BULK AT MOST 1048576: true; the input reads as it did. -/
def findTellsUptoRow : OpenClaim := { program := "ytmbhkkophkccbaagreat", sum := "ab7d672f056fc0bfa86bbcc2b08b8d93b80c9eed41de80e688085f41e6522dc0", func := "treillage/treillagelaw10.FindTells", spec := "findTells", inPlace := ["internal/bytealg.IndexByteString", "slices.overlaps[int]", "internal/bytealg.IndexString"], unfollowed := true, recurses := true, named := ["internal/bytealg.MaxLen"], plainKeys := false, apart := false, narrowed := true }
def FindTellsUptoSaid : Prop := findTellsUptoRow.holds Tryz.pinned (OpenSpec.upto findTellsSpec)

/-- 'treillagelaw10.FindTexts', WHERE WHAT IT READS IS OF BULK AT MOST 1048576: true; the input reads as it did. -/
def findTextsUptoRow : OpenClaim := { program := "ytmbhkkophkccbaagreat", sum := "ab7d672f056fc0bfa86bbcc2b08b8d93b80c9eed41de80e688085f41e6522dc0", func := "treillage/treillagelaw10.FindTexts", spec := "findTexts", inPlace := ["internal/bytealg.IndexByteString", "slices.overlaps[int]", "internal/bytealg.IndexString"], unfollowed := true, recurses := true, named := ["internal/bytealg.MaxLen"], plainKeys := false, apart := false, narrowed := true }
def FindTextsUptoSaid : Prop := findTextsUptoRow.holds Tryz.pinned (OpenSpec.upto findTextsSpec)

/-- 'treillagelaw13.SnapOf', WHERE WHAT IT READS IS OF BULK AT MOST 1048576: true; the input reads as it did. -/
def snapOfUptoRow : OpenClaim := { program := "ytmbhkkophkccbaagreat", sum := "ab7d672f056fc0bfa86bbcc2b08b8d93b80c9eed41de80e688085f41e6522dc0", func := "treillage/treillagelaw13.SnapOf", spec := "snapOf", inPlace := ["internal/bytealg.IndexByteString", "slices.overlaps[int]", "internal/abi.NoEscape", "internal/bytealg.IndexString", "sync/atomic.LoadUint32", "(*internal/sync.Mutex).Lock", "internal/race.Disable", "sync/atomic.CompareAndSwapInt32", "internal/race.Enable", "internal/race.Acquire", "(*internal/sync.Mutex).lockSlow", "internal/sync.runtime_canSpin", "internal/sync.runtime_doSpin", "internal/sync.throw", "internal/sync.runtime_nanotime", "internal/sync.runtime_SemacquireMutex", "sync/atomic.AddInt32", "(*internal/sync.Mutex).Unlock", "internal/race.ReleaseMerge", "(*internal/sync.Mutex).unlockSlow", "internal/sync.fatal", "internal/sync.runtime_Semrelease", "sync/atomic.StoreUint32"], unfollowed := true, recurses := true, named := ["internal/bytealg.MaxLen"], plainKeys := false, apart := false, narrowed := true }
def SnapOfUptoSaid : Prop := snapOfUptoRow.holds Tryz.pinned (OpenSpec.upto snapOfSpec)

/-- 'treillagelaw13.SnapKids', WHERE WHAT IT READS IS OF BULK AT MOST 1048576: true; the input reads as it did. -/
def snapKidsUptoRow : OpenClaim := { program := "ytmbhkkophkccbaagreat", sum := "ab7d672f056fc0bfa86bbcc2b08b8d93b80c9eed41de80e688085f41e6522dc0", func := "treillage/treillagelaw13.SnapKids", spec := "snapKids", inPlace := ["internal/bytealg.IndexByteString", "slices.overlaps[int]", "internal/abi.NoEscape", "internal/bytealg.IndexString", "sync/atomic.LoadUint32", "(*internal/sync.Mutex).Lock", "internal/race.Disable", "sync/atomic.CompareAndSwapInt32", "internal/race.Enable", "internal/race.Acquire", "(*internal/sync.Mutex).lockSlow", "internal/sync.runtime_canSpin", "internal/sync.runtime_doSpin", "internal/sync.throw", "internal/sync.runtime_nanotime", "internal/sync.runtime_SemacquireMutex", "sync/atomic.AddInt32", "(*internal/sync.Mutex).Unlock", "internal/race.ReleaseMerge", "(*internal/sync.Mutex).unlockSlow", "internal/sync.fatal", "internal/sync.runtime_Semrelease", "sync/atomic.StoreUint32"], unfollowed := true, recurses := true, named := ["internal/bytealg.MaxLen"], plainKeys := false, apart := false, narrowed := true }
def SnapKidsUptoSaid : Prop := snapKidsUptoRow.holds Tryz.pinned (OpenSpec.upto snapKidsSpec)

/-- 'treillagelaw13.SnapErrors', WHERE WHAT IT READS IS OF BULK AT MOST 1048576: true; the input reads as it did. -/
def snapErrorsUptoRow : OpenClaim := { program := "ytmbhkkophkccbaagreat", sum := "ab7d672f056fc0bfa86bbcc2b08b8d93b80c9eed41de80e688085f41e6522dc0", func := "treillage/treillagelaw13.SnapErrors", spec := "snapErrors", inPlace := ["internal/bytealg.IndexByteString", "slices.overlaps[int]", "internal/abi.NoEscape", "internal/bytealg.IndexString", "sync/atomic.LoadUint32", "(*internal/sync.Mutex).Lock", "internal/race.Disable", "sync/atomic.CompareAndSwapInt32", "internal/race.Enable", "internal/race.Acquire", "(*internal/sync.Mutex).lockSlow", "internal/sync.runtime_canSpin", "internal/sync.runtime_doSpin", "internal/sync.throw", "internal/sync.runtime_nanotime", "internal/sync.runtime_SemacquireMutex", "sync/atomic.AddInt32", "(*internal/sync.Mutex).Unlock", "internal/race.ReleaseMerge", "(*internal/sync.Mutex).unlockSlow", "internal/sync.fatal", "internal/sync.runtime_Semrelease", "sync/atomic.StoreUint32"], unfollowed := true, recurses := true, named := ["internal/bytealg.MaxLen"], plainKeys := false, apart := false, narrowed := true }
def SnapErrorsUptoSaid : Prop := snapErrorsUptoRow.holds Tryz.pinned (OpenSpec.upto snapErrorsSpec)

/-- 'treillagelaw13.SnapOne', WHERE WHAT IT READS IS OF BULK AT MOST 1048576: true; the input reads as it did. -/
def snapOneUptoRow : OpenClaim := { program := "ytmbhkkophkccbaagreat", sum := "ab7d672f056fc0bfa86bbcc2b08b8d93b80c9eed41de80e688085f41e6522dc0", func := "treillage/treillagelaw13.SnapOne", spec := "snapOne", inPlace := ["internal/bytealg.IndexByteString", "slices.overlaps[int]", "internal/abi.NoEscape", "internal/bytealg.IndexString", "sync/atomic.LoadUint32", "(*internal/sync.Mutex).Lock", "internal/race.Disable", "sync/atomic.CompareAndSwapInt32", "internal/race.Enable", "internal/race.Acquire", "(*internal/sync.Mutex).lockSlow", "internal/sync.runtime_canSpin", "internal/sync.runtime_doSpin", "internal/sync.throw", "internal/sync.runtime_nanotime", "internal/sync.runtime_SemacquireMutex", "sync/atomic.AddInt32", "(*internal/sync.Mutex).Unlock", "internal/race.ReleaseMerge", "(*internal/sync.Mutex).unlockSlow", "internal/sync.fatal", "internal/sync.runtime_Semrelease", "sync/atomic.StoreUint32"], unfollowed := true, recurses := true, named := ["internal/bytealg.MaxLen"], plainKeys := false, apart := false, narrowed := true }
def SnapOneUptoSaid : Prop := snapOneUptoRow.holds Tryz.pinned (OpenSpec.upto snapOneSpec)

/-- 'treillagelaw20.HistoryTwice', WHERE WHAT IT READS IS OF BULK AT MOST 1048576: true; the input reads as it did. -/
def historyTwiceUptoRow : OpenClaim := { program := "ytmbhkkophkccbaagreat", sum := "ab7d672f056fc0bfa86bbcc2b08b8d93b80c9eed41de80e688085f41e6522dc0", func := "treillage/treillagelaw20.HistoryTwice", spec := "historyTwice", inPlace := ["internal/bytealg.IndexByteString", "slices.overlaps[int]", "internal/abi.NoEscape", "internal/bytealg.IndexString", "sync/atomic.LoadUint32", "(*internal/sync.Mutex).Lock", "internal/race.Disable", "sync/atomic.CompareAndSwapInt32", "internal/race.Enable", "internal/race.Acquire", "(*internal/sync.Mutex).lockSlow", "internal/sync.runtime_canSpin", "internal/sync.runtime_doSpin", "internal/sync.throw", "internal/sync.runtime_nanotime", "internal/sync.runtime_SemacquireMutex", "sync/atomic.AddInt32", "(*internal/sync.Mutex).Unlock", "internal/race.ReleaseMerge", "(*internal/sync.Mutex).unlockSlow", "internal/sync.fatal", "internal/sync.runtime_Semrelease", "sync/atomic.StoreUint32"], unfollowed := true, recurses := true, named := ["internal/bytealg.MaxLen"], plainKeys := false, apart := false, narrowed := true }
def HistoryTwiceUptoSaid : Prop := historyTwiceUptoRow.holds Tryz.pinned (OpenSpec.upto historyTwiceSpec)

/-- 'treillagelaw20.HistoryNone', WHERE WHAT IT READS IS OF BULK AT MOST 1048576: true; the input reads as it did. -/
def historyNoneUptoRow : OpenClaim := { program := "ytmbhkkophkccbaagreat", sum := "ab7d672f056fc0bfa86bbcc2b08b8d93b80c9eed41de80e688085f41e6522dc0", func := "treillage/treillagelaw20.HistoryNone", spec := "historyNone", inPlace := ["internal/bytealg.IndexByteString", "slices.overlaps[int]", "internal/abi.NoEscape", "internal/bytealg.IndexString", "sync/atomic.LoadUint32", "(*internal/sync.Mutex).Lock", "internal/race.Disable", "sync/atomic.CompareAndSwapInt32", "internal/race.Enable", "internal/race.Acquire", "(*internal/sync.Mutex).lockSlow", "internal/sync.runtime_canSpin", "internal/sync.runtime_doSpin", "internal/sync.throw", "internal/sync.runtime_nanotime", "internal/sync.runtime_SemacquireMutex", "sync/atomic.AddInt32", "(*internal/sync.Mutex).Unlock", "internal/race.ReleaseMerge", "(*internal/sync.Mutex).unlockSlow", "internal/sync.fatal", "internal/sync.runtime_Semrelease", "sync/atomic.StoreUint32"], unfollowed := true, recurses := true, named := ["internal/bytealg.MaxLen"], plainKeys := false, apart := false, narrowed := true }
def HistoryNoneUptoSaid : Prop := historyNoneUptoRow.holds Tryz.pinned (OpenSpec.upto historyNoneSpec)

/-- 'treillagelaw20.HistoryStates', WHERE WHAT IT READS IS OF BULK AT MOST 1048576: true; the input reads as it did. -/
def historyStatesUptoRow : OpenClaim := { program := "ytmbhkkophkccbaagreat", sum := "ab7d672f056fc0bfa86bbcc2b08b8d93b80c9eed41de80e688085f41e6522dc0", func := "treillage/treillagelaw20.HistoryStates", spec := "historyStates", inPlace := ["internal/bytealg.IndexByteString", "slices.overlaps[int]", "internal/abi.NoEscape", "internal/bytealg.IndexString", "sync/atomic.LoadUint32", "(*internal/sync.Mutex).Lock", "internal/race.Disable", "sync/atomic.CompareAndSwapInt32", "internal/race.Enable", "internal/race.Acquire", "(*internal/sync.Mutex).lockSlow", "internal/sync.runtime_canSpin", "internal/sync.runtime_doSpin", "internal/sync.throw", "internal/sync.runtime_nanotime", "internal/sync.runtime_SemacquireMutex", "sync/atomic.AddInt32", "(*internal/sync.Mutex).Unlock", "internal/race.ReleaseMerge", "(*internal/sync.Mutex).unlockSlow", "internal/sync.fatal", "internal/sync.runtime_Semrelease", "sync/atomic.StoreUint32"], unfollowed := true, recurses := true, named := ["internal/bytealg.MaxLen"], plainKeys := false, apart := false, narrowed := true }
def HistoryStatesUptoSaid : Prop := historyStatesUptoRow.holds Tryz.pinned (OpenSpec.upto historyStatesSpec)

end Rows
end Go.Proofs.YtmbhkkophkccbaaGreat
