/-
  No cell of these rows narrows 'for every input' (looked for: loops, veiled, ifaces, maps, wideKeys, modest, calm, conditions, laid).
  DERIVED. THE GIVEN ROWS OF THIS SEAT. 15 by the template 'for every input the law returns true; each argument reads behind the call as it read before'; 0 by the template 'total and deterministic' (their statements: YthdenkkllpkplaaGreatTotals.lean).
  GIVEN WITH THE SEED: the statements are not yours to turn. If you find one false, say at which input.
  Laid BY PROGRAM, IN A SANDBOX (cutbox-rows.mjs): the forced cells as the released guide's own fill.sh prints them over the translation e2747e066e8f9702… (all of the seat's roots in one cut). By AI agents, Wed Nov 11 2026. No macro, syntax, notation, axiom, sorry.
-/
import Derived.Test.YthdenkkllpkplaaGreatChecked
import GoSem.Claim
import GoSem.ClaimJoined
import GoSem.ClaimMapViews
import Derived.JoinedTies
import Derived.KernelRfl
namespace Go.Proofs.YthdenkkllpkplaaGreat
/- THE CELL 'sum', in the pinned program and in every row, IS THE sha256 OF THE DUMP (.gsa) THAT YthdenkkllpkplaaGreatProg.lean LOADS. Nothing in Lean hashes anything: it is a label: what it is worth is what the hold of that sum in a sandbox is worth. -/
noncomputable def Tryz.pinned : Pinned := { name := "ythdenkkllpkplaagreat", sum := "e2747e066e8f9702942fe4925dc413fb5dd12cae3714f18da9cacba050d88a5b", checked := Tryz.checked }
namespace Rows
def none {H : Type} : Left H := { results := [], args := [] }

/-- 'treillagelaw07.ApplyUnknown': WHATEVER THE INPUT: true; the input reads as it did. -/
def applyUnknownSpec : ChangeSpec := { name := "applyUnknown", fn := fun _ => fun
  | [d1, d2, d3] => { results := [.lit (.bool true)], args := [d1, d2, d3] }
  | _ => none }
def applyUnknownRow : OpenClaim := { program := "ythdenkkllpkplaagreat", sum := "e2747e066e8f9702942fe4925dc413fb5dd12cae3714f18da9cacba050d88a5b", func := "treillage/treillagelaw07.ApplyUnknown", spec := "applyUnknown", inPlace := ["internal/bytealg.IndexByteString", "slices.overlaps[int]", "sync/atomic.LoadUint32", "(*internal/sync.Mutex).Lock", "internal/race.Disable", "sync/atomic.CompareAndSwapInt32", "internal/race.Enable", "internal/race.Acquire", "(*internal/sync.Mutex).lockSlow", "internal/sync.runtime_canSpin", "internal/sync.runtime_doSpin", "internal/sync.throw", "internal/sync.runtime_nanotime", "internal/sync.runtime_SemacquireMutex", "sync/atomic.AddInt32", "(*internal/sync.Mutex).Unlock", "internal/race.ReleaseMerge", "(*internal/sync.Mutex).unlockSlow", "internal/sync.fatal", "internal/sync.runtime_Semrelease", "sync/atomic.StoreUint32", "internal/abi.NoEscape"], unfollowed := true, recurses := true, apart := false }
def ApplyUnknownSaid : Prop := applyUnknownRow.holds Tryz.pinned (OpenSpec.ofChange applyUnknownSpec)

/-- ITS FALSE NEIGHBOUR: 'it returns false'. Refute it at one input. -/
def applyUnknownWrong : ChangeSpec := { name := "applyUnknown", fn := fun _ => fun
  | [d1, d2, d3] => { results := [.lit (.bool false)], args := [d1, d2, d3] }
  | _ => none }
def ApplyUnknownWrongFalsely : Prop := applyUnknownRow.holds Tryz.pinned (OpenSpec.ofChange applyUnknownWrong)

/-- 'treillagelaw07.ApplyOnes': WHATEVER THE INPUT: true; the input reads as it did. -/
def applyOnesSpec : ChangeSpec := { name := "applyOnes", fn := fun _ => fun
  | [d] => { results := [.lit (.bool true)], args := [d] }
  | _ => none }
def applyOnesRow : OpenClaim := { program := "ythdenkkllpkplaagreat", sum := "e2747e066e8f9702942fe4925dc413fb5dd12cae3714f18da9cacba050d88a5b", func := "treillage/treillagelaw07.ApplyOnes", spec := "applyOnes", inPlace := ["internal/bytealg.IndexByteString", "slices.overlaps[int]", "sync/atomic.LoadUint32", "(*internal/sync.Mutex).Lock", "internal/race.Disable", "sync/atomic.CompareAndSwapInt32", "internal/race.Enable", "internal/race.Acquire", "(*internal/sync.Mutex).lockSlow", "internal/sync.runtime_canSpin", "internal/sync.runtime_doSpin", "internal/sync.throw", "internal/sync.runtime_nanotime", "internal/sync.runtime_SemacquireMutex", "sync/atomic.AddInt32", "(*internal/sync.Mutex).Unlock", "internal/race.ReleaseMerge", "(*internal/sync.Mutex).unlockSlow", "internal/sync.fatal", "internal/sync.runtime_Semrelease", "sync/atomic.StoreUint32", "internal/abi.NoEscape"], unfollowed := true, recurses := true, apart := false }
def ApplyOnesSaid : Prop := applyOnesRow.holds Tryz.pinned (OpenSpec.ofChange applyOnesSpec)

/-- ITS FALSE NEIGHBOUR: 'it returns false'. Refute it at one input. -/
def applyOnesWrong : ChangeSpec := { name := "applyOnes", fn := fun _ => fun
  | [d] => { results := [.lit (.bool false)], args := [d] }
  | _ => none }
def ApplyOnesWrongFalsely : Prop := applyOnesRow.holds Tryz.pinned (OpenSpec.ofChange applyOnesWrong)

/-- 'treillagelaw07.ApplyAll': WHATEVER THE INPUT: true; the input reads as it did. -/
def applyAllSpec : ChangeSpec := { name := "applyAll", fn := fun _ => fun
  | [d1, d2] => { results := [.lit (.bool true)], args := [d1, d2] }
  | _ => none }
def applyAllRow : OpenClaim := { program := "ythdenkkllpkplaagreat", sum := "e2747e066e8f9702942fe4925dc413fb5dd12cae3714f18da9cacba050d88a5b", func := "treillage/treillagelaw07.ApplyAll", spec := "applyAll", inPlace := ["internal/bytealg.IndexByteString", "slices.overlaps[int]", "sync/atomic.LoadUint32", "(*internal/sync.Mutex).Lock", "internal/race.Disable", "sync/atomic.CompareAndSwapInt32", "internal/race.Enable", "internal/race.Acquire", "(*internal/sync.Mutex).lockSlow", "internal/sync.runtime_canSpin", "internal/sync.runtime_doSpin", "internal/sync.throw", "internal/sync.runtime_nanotime", "internal/sync.runtime_SemacquireMutex", "sync/atomic.AddInt32", "(*internal/sync.Mutex).Unlock", "internal/race.ReleaseMerge", "(*internal/sync.Mutex).unlockSlow", "internal/sync.fatal", "internal/sync.runtime_Semrelease", "sync/atomic.StoreUint32", "internal/abi.NoEscape"], unfollowed := true, recurses := true, apart := false }
def ApplyAllSaid : Prop := applyAllRow.holds Tryz.pinned (OpenSpec.ofChange applyAllSpec)

/-- ITS FALSE NEIGHBOUR: 'it returns false'. Refute it at one input. -/
def applyAllWrong : ChangeSpec := { name := "applyAll", fn := fun _ => fun
  | [d1, d2] => { results := [.lit (.bool false)], args := [d1, d2] }
  | _ => none }
def ApplyAllWrongFalsely : Prop := applyAllRow.holds Tryz.pinned (OpenSpec.ofChange applyAllWrong)

/-- 'treillagelaw07.ApplyParts': WHATEVER THE INPUT: true; the input reads as it did. -/
def applyPartsSpec : ChangeSpec := { name := "applyParts", fn := fun _ => fun
  | [d1, d2] => { results := [.lit (.bool true)], args := [d1, d2] }
  | _ => none }
def applyPartsRow : OpenClaim := { program := "ythdenkkllpkplaagreat", sum := "e2747e066e8f9702942fe4925dc413fb5dd12cae3714f18da9cacba050d88a5b", func := "treillage/treillagelaw07.ApplyParts", spec := "applyParts", inPlace := ["internal/bytealg.IndexByteString", "slices.overlaps[int]", "sync/atomic.LoadUint32", "(*internal/sync.Mutex).Lock", "internal/race.Disable", "sync/atomic.CompareAndSwapInt32", "internal/race.Enable", "internal/race.Acquire", "(*internal/sync.Mutex).lockSlow", "internal/sync.runtime_canSpin", "internal/sync.runtime_doSpin", "internal/sync.throw", "internal/sync.runtime_nanotime", "internal/sync.runtime_SemacquireMutex", "sync/atomic.AddInt32", "(*internal/sync.Mutex).Unlock", "internal/race.ReleaseMerge", "(*internal/sync.Mutex).unlockSlow", "internal/sync.fatal", "internal/sync.runtime_Semrelease", "sync/atomic.StoreUint32", "internal/abi.NoEscape"], unfollowed := true, recurses := true, apart := false }
def ApplyPartsSaid : Prop := applyPartsRow.holds Tryz.pinned (OpenSpec.ofChange applyPartsSpec)

/-- ITS FALSE NEIGHBOUR: 'it returns false'. Refute it at one input. -/
def applyPartsWrong : ChangeSpec := { name := "applyParts", fn := fun _ => fun
  | [d1, d2] => { results := [.lit (.bool false)], args := [d1, d2] }
  | _ => none }
def ApplyPartsWrongFalsely : Prop := applyPartsRow.holds Tryz.pinned (OpenSpec.ofChange applyPartsWrong)

/-- 'treillagelaw07.ApplyMoves': WHATEVER THE INPUT: true; the input reads as it did. -/
def applyMovesSpec : ChangeSpec := { name := "applyMoves", fn := fun _ => fun
  | [d1, d2, d3, d4] => { results := [.lit (.bool true)], args := [d1, d2, d3, d4] }
  | _ => none }
def applyMovesRow : OpenClaim := { program := "ythdenkkllpkplaagreat", sum := "e2747e066e8f9702942fe4925dc413fb5dd12cae3714f18da9cacba050d88a5b", func := "treillage/treillagelaw07.ApplyMoves", spec := "applyMoves", inPlace := ["internal/bytealg.IndexByteString", "slices.overlaps[int]", "sync/atomic.LoadUint32", "(*internal/sync.Mutex).Lock", "internal/race.Disable", "sync/atomic.CompareAndSwapInt32", "internal/race.Enable", "internal/race.Acquire", "(*internal/sync.Mutex).lockSlow", "internal/sync.runtime_canSpin", "internal/sync.runtime_doSpin", "internal/sync.throw", "internal/sync.runtime_nanotime", "internal/sync.runtime_SemacquireMutex", "sync/atomic.AddInt32", "(*internal/sync.Mutex).Unlock", "internal/race.ReleaseMerge", "(*internal/sync.Mutex).unlockSlow", "internal/sync.fatal", "internal/sync.runtime_Semrelease", "sync/atomic.StoreUint32", "internal/abi.NoEscape"], unfollowed := true, recurses := true, apart := false }
def ApplyMovesSaid : Prop := applyMovesRow.holds Tryz.pinned (OpenSpec.ofChange applyMovesSpec)

/-- ITS FALSE NEIGHBOUR: 'it returns false'. Refute it at one input. -/
def applyMovesWrong : ChangeSpec := { name := "applyMoves", fn := fun _ => fun
  | [d1, d2, d3, d4] => { results := [.lit (.bool false)], args := [d1, d2, d3, d4] }
  | _ => none }
def ApplyMovesWrongFalsely : Prop := applyMovesRow.holds Tryz.pinned (OpenSpec.ofChange applyMovesWrong)

/-- 'treillagelaw07.ApplyFresh': WHATEVER THE INPUT: true; the input reads as it did. -/
def applyFreshSpec : ChangeSpec := { name := "applyFresh", fn := fun _ => fun
  | [d1, d2, d3, d4] => { results := [.lit (.bool true)], args := [d1, d2, d3, d4] }
  | _ => none }
def applyFreshRow : OpenClaim := { program := "ythdenkkllpkplaagreat", sum := "e2747e066e8f9702942fe4925dc413fb5dd12cae3714f18da9cacba050d88a5b", func := "treillage/treillagelaw07.ApplyFresh", spec := "applyFresh", inPlace := ["internal/bytealg.IndexByteString", "slices.overlaps[int]", "sync/atomic.LoadUint32", "(*internal/sync.Mutex).Lock", "internal/race.Disable", "sync/atomic.CompareAndSwapInt32", "internal/race.Enable", "internal/race.Acquire", "(*internal/sync.Mutex).lockSlow", "internal/sync.runtime_canSpin", "internal/sync.runtime_doSpin", "internal/sync.throw", "internal/sync.runtime_nanotime", "internal/sync.runtime_SemacquireMutex", "sync/atomic.AddInt32", "(*internal/sync.Mutex).Unlock", "internal/race.ReleaseMerge", "(*internal/sync.Mutex).unlockSlow", "internal/sync.fatal", "internal/sync.runtime_Semrelease", "sync/atomic.StoreUint32", "internal/abi.NoEscape"], unfollowed := true, recurses := true, apart := false }
def ApplyFreshSaid : Prop := applyFreshRow.holds Tryz.pinned (OpenSpec.ofChange applyFreshSpec)

/-- ITS FALSE NEIGHBOUR: 'it returns false'. Refute it at one input. -/
def applyFreshWrong : ChangeSpec := { name := "applyFresh", fn := fun _ => fun
  | [d1, d2, d3, d4] => { results := [.lit (.bool false)], args := [d1, d2, d3, d4] }
  | _ => none }
def ApplyFreshWrongFalsely : Prop := applyFreshRow.holds Tryz.pinned (OpenSpec.ofChange applyFreshWrong)

/-- 'treillagelaw07.ApplyAttrs': WHATEVER THE INPUT: true; the input reads as it did. -/
def applyAttrsSpec : ChangeSpec := { name := "applyAttrs", fn := fun _ => fun
  | [d1, d2, d3, d4] => { results := [.lit (.bool true)], args := [d1, d2, d3, d4] }
  | _ => none }
def applyAttrsRow : OpenClaim := { program := "ythdenkkllpkplaagreat", sum := "e2747e066e8f9702942fe4925dc413fb5dd12cae3714f18da9cacba050d88a5b", func := "treillage/treillagelaw07.ApplyAttrs", spec := "applyAttrs", inPlace := ["internal/bytealg.IndexByteString", "slices.overlaps[int]", "sync/atomic.LoadUint32", "(*internal/sync.Mutex).Lock", "internal/race.Disable", "sync/atomic.CompareAndSwapInt32", "internal/race.Enable", "internal/race.Acquire", "(*internal/sync.Mutex).lockSlow", "internal/sync.runtime_canSpin", "internal/sync.runtime_doSpin", "internal/sync.throw", "internal/sync.runtime_nanotime", "internal/sync.runtime_SemacquireMutex", "sync/atomic.AddInt32", "(*internal/sync.Mutex).Unlock", "internal/race.ReleaseMerge", "(*internal/sync.Mutex).unlockSlow", "internal/sync.fatal", "internal/sync.runtime_Semrelease", "sync/atomic.StoreUint32", "internal/abi.NoEscape"], unfollowed := true, recurses := true, apart := false }
def ApplyAttrsSaid : Prop := applyAttrsRow.holds Tryz.pinned (OpenSpec.ofChange applyAttrsSpec)

/-- ITS FALSE NEIGHBOUR: 'it returns false'. Refute it at one input. -/
def applyAttrsWrong : ChangeSpec := { name := "applyAttrs", fn := fun _ => fun
  | [d1, d2, d3, d4] => { results := [.lit (.bool false)], args := [d1, d2, d3, d4] }
  | _ => none }
def ApplyAttrsWrongFalsely : Prop := applyAttrsRow.holds Tryz.pinned (OpenSpec.ofChange applyAttrsWrong)

/-- 'treillagelaw07.ApplyKeeps': WHATEVER THE INPUT: true; the input reads as it did. -/
def applyKeepsSpec : ChangeSpec := { name := "applyKeeps", fn := fun _ => fun
  | [d1, d2] => { results := [.lit (.bool true)], args := [d1, d2] }
  | _ => none }
def applyKeepsRow : OpenClaim := { program := "ythdenkkllpkplaagreat", sum := "e2747e066e8f9702942fe4925dc413fb5dd12cae3714f18da9cacba050d88a5b", func := "treillage/treillagelaw07.ApplyKeeps", spec := "applyKeeps", inPlace := ["internal/bytealg.IndexByteString", "slices.overlaps[int]", "sync/atomic.LoadUint32", "(*internal/sync.Mutex).Lock", "internal/race.Disable", "sync/atomic.CompareAndSwapInt32", "internal/race.Enable", "internal/race.Acquire", "(*internal/sync.Mutex).lockSlow", "internal/sync.runtime_canSpin", "internal/sync.runtime_doSpin", "internal/sync.throw", "internal/sync.runtime_nanotime", "internal/sync.runtime_SemacquireMutex", "sync/atomic.AddInt32", "(*internal/sync.Mutex).Unlock", "internal/race.ReleaseMerge", "(*internal/sync.Mutex).unlockSlow", "internal/sync.fatal", "internal/sync.runtime_Semrelease", "sync/atomic.StoreUint32", "internal/abi.NoEscape"], unfollowed := true, recurses := true, apart := false }
def ApplyKeepsSaid : Prop := applyKeepsRow.holds Tryz.pinned (OpenSpec.ofChange applyKeepsSpec)

/-- ITS FALSE NEIGHBOUR: 'it returns false'. Refute it at one input. -/
def applyKeepsWrong : ChangeSpec := { name := "applyKeeps", fn := fun _ => fun
  | [d1, d2] => { results := [.lit (.bool false)], args := [d1, d2] }
  | _ => none }
def ApplyKeepsWrongFalsely : Prop := applyKeepsRow.holds Tryz.pinned (OpenSpec.ofChange applyKeepsWrong)

/-- 'treillagelaw10.FindTells': WHATEVER THE INPUT: true; the input reads as it did. -/
def findTellsSpec : ChangeSpec := { name := "findTells", fn := fun _ => fun
  | [d1, d2, d3] => { results := [.lit (.bool true)], args := [d1, d2, d3] }
  | _ => none }
def findTellsRow : OpenClaim := { program := "ythdenkkllpkplaagreat", sum := "e2747e066e8f9702942fe4925dc413fb5dd12cae3714f18da9cacba050d88a5b", func := "treillage/treillagelaw10.FindTells", spec := "findTells", inPlace := ["internal/bytealg.IndexByteString", "slices.overlaps[int]", "internal/bytealg.IndexString"], unfollowed := true, recurses := true, named := ["internal/bytealg.MaxLen"], apart := false }
def FindTellsSaid : Prop := findTellsRow.holds Tryz.pinned (OpenSpec.ofChange findTellsSpec)

/-- ITS FALSE NEIGHBOUR: 'it returns false'. Refute it at one input. -/
def findTellsWrong : ChangeSpec := { name := "findTells", fn := fun _ => fun
  | [d1, d2, d3] => { results := [.lit (.bool false)], args := [d1, d2, d3] }
  | _ => none }
def FindTellsWrongFalsely : Prop := findTellsRow.holds Tryz.pinned (OpenSpec.ofChange findTellsWrong)

/-- 'treillagelaw10.FindTexts': WHATEVER THE INPUT: true; the input reads as it did. -/
def findTextsSpec : ChangeSpec := { name := "findTexts", fn := fun _ => fun
  | [d1, d2] => { results := [.lit (.bool true)], args := [d1, d2] }
  | _ => none }
def findTextsRow : OpenClaim := { program := "ythdenkkllpkplaagreat", sum := "e2747e066e8f9702942fe4925dc413fb5dd12cae3714f18da9cacba050d88a5b", func := "treillage/treillagelaw10.FindTexts", spec := "findTexts", inPlace := ["internal/bytealg.IndexByteString", "slices.overlaps[int]", "internal/bytealg.IndexString"], unfollowed := true, recurses := true, named := ["internal/bytealg.MaxLen"], apart := false }
def FindTextsSaid : Prop := findTextsRow.holds Tryz.pinned (OpenSpec.ofChange findTextsSpec)

/-- ITS FALSE NEIGHBOUR: 'it returns false'. Refute it at one input. -/
def findTextsWrong : ChangeSpec := { name := "findTexts", fn := fun _ => fun
  | [d1, d2] => { results := [.lit (.bool false)], args := [d1, d2] }
  | _ => none }
def FindTextsWrongFalsely : Prop := findTextsRow.holds Tryz.pinned (OpenSpec.ofChange findTextsWrong)

/-- 'treillagelaw10.FindBoth': WHATEVER THE INPUT: true; the input reads as it did. -/
def findBothSpec : ChangeSpec := { name := "findBoth", fn := fun _ => fun
  | [d1, d2, d3, d4] => { results := [.lit (.bool true)], args := [d1, d2, d3, d4] }
  | _ => none }
def findBothRow : OpenClaim := { program := "ythdenkkllpkplaagreat", sum := "e2747e066e8f9702942fe4925dc413fb5dd12cae3714f18da9cacba050d88a5b", func := "treillage/treillagelaw10.FindBoth", spec := "findBoth", inPlace := ["internal/bytealg.IndexByteString", "slices.overlaps[int]", "internal/bytealg.IndexString"], unfollowed := true, recurses := true, named := ["internal/bytealg.MaxLen"], apart := false }
def FindBothSaid : Prop := findBothRow.holds Tryz.pinned (OpenSpec.ofChange findBothSpec)

/-- ITS FALSE NEIGHBOUR: 'it returns false'. Refute it at one input. -/
def findBothWrong : ChangeSpec := { name := "findBoth", fn := fun _ => fun
  | [d1, d2, d3, d4] => { results := [.lit (.bool false)], args := [d1, d2, d3, d4] }
  | _ => none }
def FindBothWrongFalsely : Prop := findBothRow.holds Tryz.pinned (OpenSpec.ofChange findBothWrong)

/-- 'treillagelaw10.FindBelow': WHATEVER THE INPUT: true; the input reads as it did. -/
def findBelowSpec : ChangeSpec := { name := "findBelow", fn := fun _ => fun
  | [d1, d2, d3, d4] => { results := [.lit (.bool true)], args := [d1, d2, d3, d4] }
  | _ => none }
def findBelowRow : OpenClaim := { program := "ythdenkkllpkplaagreat", sum := "e2747e066e8f9702942fe4925dc413fb5dd12cae3714f18da9cacba050d88a5b", func := "treillage/treillagelaw10.FindBelow", spec := "findBelow", inPlace := ["internal/bytealg.IndexByteString", "slices.overlaps[int]", "internal/bytealg.IndexString"], unfollowed := true, recurses := true, named := ["internal/bytealg.MaxLen"], apart := false }
def FindBelowSaid : Prop := findBelowRow.holds Tryz.pinned (OpenSpec.ofChange findBelowSpec)

/-- ITS FALSE NEIGHBOUR: 'it returns false'. Refute it at one input. -/
def findBelowWrong : ChangeSpec := { name := "findBelow", fn := fun _ => fun
  | [d1, d2, d3, d4] => { results := [.lit (.bool false)], args := [d1, d2, d3, d4] }
  | _ => none }
def FindBelowWrongFalsely : Prop := findBelowRow.holds Tryz.pinned (OpenSpec.ofChange findBelowWrong)

/-- 'treillagelaw10.FindStar': WHATEVER THE INPUT: true; the input reads as it did. -/
def findStarSpec : ChangeSpec := { name := "findStar", fn := fun _ => fun
  | [d1, d2] => { results := [.lit (.bool true)], args := [d1, d2] }
  | _ => none }
def findStarRow : OpenClaim := { program := "ythdenkkllpkplaagreat", sum := "e2747e066e8f9702942fe4925dc413fb5dd12cae3714f18da9cacba050d88a5b", func := "treillage/treillagelaw10.FindStar", spec := "findStar", inPlace := ["internal/bytealg.IndexByteString", "slices.overlaps[int]", "internal/bytealg.IndexString"], unfollowed := true, recurses := true, named := ["internal/bytealg.MaxLen"], apart := false }
def FindStarSaid : Prop := findStarRow.holds Tryz.pinned (OpenSpec.ofChange findStarSpec)

/-- ITS FALSE NEIGHBOUR: 'it returns false'. Refute it at one input. -/
def findStarWrong : ChangeSpec := { name := "findStar", fn := fun _ => fun
  | [d1, d2] => { results := [.lit (.bool false)], args := [d1, d2] }
  | _ => none }
def FindStarWrongFalsely : Prop := findStarRow.holds Tryz.pinned (OpenSpec.ofChange findStarWrong)

/-- 'treillagelaw10.FindMore': WHATEVER THE INPUT: true; the input reads as it did. -/
def findMoreSpec : ChangeSpec := { name := "findMore", fn := fun _ => fun
  | [d1, d2, d3, d4] => { results := [.lit (.bool true)], args := [d1, d2, d3, d4] }
  | _ => none }
def findMoreRow : OpenClaim := { program := "ythdenkkllpkplaagreat", sum := "e2747e066e8f9702942fe4925dc413fb5dd12cae3714f18da9cacba050d88a5b", func := "treillage/treillagelaw10.FindMore", spec := "findMore", inPlace := ["internal/bytealg.IndexByteString", "slices.overlaps[int]", "internal/bytealg.IndexString"], unfollowed := true, recurses := true, named := ["internal/bytealg.MaxLen"], apart := false }
def FindMoreSaid : Prop := findMoreRow.holds Tryz.pinned (OpenSpec.ofChange findMoreSpec)

/-- ITS FALSE NEIGHBOUR: 'it returns false'. Refute it at one input. -/
def findMoreWrong : ChangeSpec := { name := "findMore", fn := fun _ => fun
  | [d1, d2, d3, d4] => { results := [.lit (.bool false)], args := [d1, d2, d3, d4] }
  | _ => none }
def FindMoreWrongFalsely : Prop := findMoreRow.holds Tryz.pinned (OpenSpec.ofChange findMoreWrong)

/-- 'treillagelaw10.FindIds': WHATEVER THE INPUT: true; the input reads as it did. -/
def findIdsSpec : ChangeSpec := { name := "findIds", fn := fun _ => fun
  | [d1, d2] => { results := [.lit (.bool true)], args := [d1, d2] }
  | _ => none }
def findIdsRow : OpenClaim := { program := "ythdenkkllpkplaagreat", sum := "e2747e066e8f9702942fe4925dc413fb5dd12cae3714f18da9cacba050d88a5b", func := "treillage/treillagelaw10.FindIds", spec := "findIds", inPlace := ["internal/bytealg.IndexByteString", "slices.overlaps[int]", "internal/bytealg.IndexString"], unfollowed := true, recurses := true, named := ["internal/bytealg.MaxLen"], apart := false }
def FindIdsSaid : Prop := findIdsRow.holds Tryz.pinned (OpenSpec.ofChange findIdsSpec)

/-- ITS FALSE NEIGHBOUR: 'it returns false'. Refute it at one input. -/
def findIdsWrong : ChangeSpec := { name := "findIds", fn := fun _ => fun
  | [d1, d2] => { results := [.lit (.bool false)], args := [d1, d2] }
  | _ => none }
def FindIdsWrongFalsely : Prop := findIdsRow.holds Tryz.pinned (OpenSpec.ofChange findIdsWrong)

/- THE SECOND FORM. 'bulk': how many values and letters a reading holds, each counted each time it is reached (what is shared counts as often as it is met; a slice's spare places count too). A statement '..UptoSaid' is the law's where the arguments, and the package variables that the reading takes, are together of bulk at most 1048576: NARROWER than '..Said'. Prove '..Said' where nothing that the law and all that it calls make is longer than what came in: it says more and counts as full. Else prove '..UptoSaid'. A law counts once. -/
mutual
def uptoBulk {H : Type} : DataW H → Nat
  | .lit (.string bytes) => bytes.length + 1
  | .lit _ => 1
  | .nil => 1
  | .ptr d => uptoBulk d + 1
  | .slice elems spare => uptoBulkAll elems + uptoBulkAll spare + 1
  | .agg parts => uptoBulkAll parts + 1
  | .iface _ d => uptoBulk d + 1
  | .map entries => uptoBulkEntries entries + 1
  | .held _ => 1
def uptoBulkAll {H : Type} : List (DataW H) → Nat
  | [] => 0
  | d :: r => uptoBulk d + uptoBulkAll r
def uptoBulkEntries {H : Type} : List (Lit × DataW H) → Nat
  | [] => 0
  | x :: r => uptoBulkEntry x + uptoBulkEntries r
def uptoBulkEntry {H : Type} : Lit × DataW H → Nat
  | (.string bytes, d) => bytes.length + uptoBulk d + 1
  | (_, d) => uptoBulk d + 1
 end
def uptoSmall : (H : Type) → List (DataW H) → Bool := fun _ ds => decide (uptoBulkAll ds ≤ 1048576)
def OpenSpec.upto (s : _root_.Go.ChangeSpec) : _root_.Go.OpenSpec := { _root_.Go.OpenSpec.ofChange s with cond := some uptoSmall }

/-- 'treillagelaw07.ApplyUnknown', WHERE WHAT IT READS IS OF BULK AT MOST 1048576: true; the input reads as it did. -/
def applyUnknownUptoRow : OpenClaim := { program := "ythdenkkllpkplaagreat", sum := "e2747e066e8f9702942fe4925dc413fb5dd12cae3714f18da9cacba050d88a5b", func := "treillage/treillagelaw07.ApplyUnknown", spec := "applyUnknown", inPlace := ["internal/bytealg.IndexByteString", "slices.overlaps[int]", "sync/atomic.LoadUint32", "(*internal/sync.Mutex).Lock", "internal/race.Disable", "sync/atomic.CompareAndSwapInt32", "internal/race.Enable", "internal/race.Acquire", "(*internal/sync.Mutex).lockSlow", "internal/sync.runtime_canSpin", "internal/sync.runtime_doSpin", "internal/sync.throw", "internal/sync.runtime_nanotime", "internal/sync.runtime_SemacquireMutex", "sync/atomic.AddInt32", "(*internal/sync.Mutex).Unlock", "internal/race.ReleaseMerge", "(*internal/sync.Mutex).unlockSlow", "internal/sync.fatal", "internal/sync.runtime_Semrelease", "sync/atomic.StoreUint32", "internal/abi.NoEscape"], unfollowed := true, recurses := true, apart := false, narrowed := true }
def ApplyUnknownUptoSaid : Prop := applyUnknownUptoRow.holds Tryz.pinned (OpenSpec.upto applyUnknownSpec)

/-- 'treillagelaw07.ApplyOnes', WHERE WHAT IT READS IS OF BULK AT MOST 1048576: true; the input reads as it did. -/
def applyOnesUptoRow : OpenClaim := { program := "ythdenkkllpkplaagreat", sum := "e2747e066e8f9702942fe4925dc413fb5dd12cae3714f18da9cacba050d88a5b", func := "treillage/treillagelaw07.ApplyOnes", spec := "applyOnes", inPlace := ["internal/bytealg.IndexByteString", "slices.overlaps[int]", "sync/atomic.LoadUint32", "(*internal/sync.Mutex).Lock", "internal/race.Disable", "sync/atomic.CompareAndSwapInt32", "internal/race.Enable", "internal/race.Acquire", "(*internal/sync.Mutex).lockSlow", "internal/sync.runtime_canSpin", "internal/sync.runtime_doSpin", "internal/sync.throw", "internal/sync.runtime_nanotime", "internal/sync.runtime_SemacquireMutex", "sync/atomic.AddInt32", "(*internal/sync.Mutex).Unlock", "internal/race.ReleaseMerge", "(*internal/sync.Mutex).unlockSlow", "internal/sync.fatal", "internal/sync.runtime_Semrelease", "sync/atomic.StoreUint32", "internal/abi.NoEscape"], unfollowed := true, recurses := true, apart := false, narrowed := true }
def ApplyOnesUptoSaid : Prop := applyOnesUptoRow.holds Tryz.pinned (OpenSpec.upto applyOnesSpec)

/-- 'treillagelaw07.ApplyAll', WHERE WHAT IT READS IS OF BULK AT MOST 1048576: true; the input reads as it did. -/
def applyAllUptoRow : OpenClaim := { program := "ythdenkkllpkplaagreat", sum := "e2747e066e8f9702942fe4925dc413fb5dd12cae3714f18da9cacba050d88a5b", func := "treillage/treillagelaw07.ApplyAll", spec := "applyAll", inPlace := ["internal/bytealg.IndexByteString", "slices.overlaps[int]", "sync/atomic.LoadUint32", "(*internal/sync.Mutex).Lock", "internal/race.Disable", "sync/atomic.CompareAndSwapInt32", "internal/race.Enable", "internal/race.Acquire", "(*internal/sync.Mutex).lockSlow", "internal/sync.runtime_canSpin", "internal/sync.runtime_doSpin", "internal/sync.throw", "internal/sync.runtime_nanotime", "internal/sync.runtime_SemacquireMutex", "sync/atomic.AddInt32", "(*internal/sync.Mutex).Unlock", "internal/race.ReleaseMerge", "(*internal/sync.Mutex).unlockSlow", "internal/sync.fatal", "internal/sync.runtime_Semrelease", "sync/atomic.StoreUint32", "internal/abi.NoEscape"], unfollowed := true, recurses := true, apart := false, narrowed := true }
def ApplyAllUptoSaid : Prop := applyAllUptoRow.holds Tryz.pinned (OpenSpec.upto applyAllSpec)

/-- 'treillagelaw07.ApplyParts', WHERE WHAT IT READS IS OF BULK AT MOST 1048576: true; the input reads as it did. -/
def applyPartsUptoRow : OpenClaim := { program := "ythdenkkllpkplaagreat", sum := "e2747e066e8f9702942fe4925dc413fb5dd12cae3714f18da9cacba050d88a5b", func := "treillage/treillagelaw07.ApplyParts", spec := "applyParts", inPlace := ["internal/bytealg.IndexByteString", "slices.overlaps[int]", "sync/atomic.LoadUint32", "(*internal/sync.Mutex).Lock", "internal/race.Disable", "sync/atomic.CompareAndSwapInt32", "internal/race.Enable", "internal/race.Acquire", "(*internal/sync.Mutex).lockSlow", "internal/sync.runtime_canSpin", "internal/sync.runtime_doSpin", "internal/sync.throw", "internal/sync.runtime_nanotime", "internal/sync.runtime_SemacquireMutex", "sync/atomic.AddInt32", "(*internal/sync.Mutex).Unlock", "internal/race.ReleaseMerge", "(*internal/sync.Mutex).unlockSlow", "internal/sync.fatal", "internal/sync.runtime_Semrelease", "sync/atomic.StoreUint32", "internal/abi.NoEscape"], unfollowed := true, recurses := true, apart := false, narrowed := true }
def ApplyPartsUptoSaid : Prop := applyPartsUptoRow.holds Tryz.pinned (OpenSpec.upto applyPartsSpec)

/-- 'treillagelaw07.ApplyMoves', WHERE WHAT IT READS IS OF BULK AT MOST 1048576: true; the input reads as it did. -/
def applyMovesUptoRow : OpenClaim := { program := "ythdenkkllpkplaagreat", sum := "e2747e066e8f9702942fe4925dc413fb5dd12cae3714f18da9cacba050d88a5b", func := "treillage/treillagelaw07.ApplyMoves", spec := "applyMoves", inPlace := ["internal/bytealg.IndexByteString", "slices.overlaps[int]", "sync/atomic.LoadUint32", "(*internal/sync.Mutex).Lock", "internal/race.Disable", "sync/atomic.CompareAndSwapInt32", "internal/race.Enable", "internal/race.Acquire", "(*internal/sync.Mutex).lockSlow", "internal/sync.runtime_canSpin", "internal/sync.runtime_doSpin", "internal/sync.throw", "internal/sync.runtime_nanotime", "internal/sync.runtime_SemacquireMutex", "sync/atomic.AddInt32", "(*internal/sync.Mutex).Unlock", "internal/race.ReleaseMerge", "(*internal/sync.Mutex).unlockSlow", "internal/sync.fatal", "internal/sync.runtime_Semrelease", "sync/atomic.StoreUint32", "internal/abi.NoEscape"], unfollowed := true, recurses := true, apart := false, narrowed := true }
def ApplyMovesUptoSaid : Prop := applyMovesUptoRow.holds Tryz.pinned (OpenSpec.upto applyMovesSpec)

/-- 'treillagelaw07.ApplyFresh', WHERE WHAT IT READS IS OF BULK AT MOST 1048576: true; the input reads as it did. -/
def applyFreshUptoRow : OpenClaim := { program := "ythdenkkllpkplaagreat", sum := "e2747e066e8f9702942fe4925dc413fb5dd12cae3714f18da9cacba050d88a5b", func := "treillage/treillagelaw07.ApplyFresh", spec := "applyFresh", inPlace := ["internal/bytealg.IndexByteString", "slices.overlaps[int]", "sync/atomic.LoadUint32", "(*internal/sync.Mutex).Lock", "internal/race.Disable", "sync/atomic.CompareAndSwapInt32", "internal/race.Enable", "internal/race.Acquire", "(*internal/sync.Mutex).lockSlow", "internal/sync.runtime_canSpin", "internal/sync.runtime_doSpin", "internal/sync.throw", "internal/sync.runtime_nanotime", "internal/sync.runtime_SemacquireMutex", "sync/atomic.AddInt32", "(*internal/sync.Mutex).Unlock", "internal/race.ReleaseMerge", "(*internal/sync.Mutex).unlockSlow", "internal/sync.fatal", "internal/sync.runtime_Semrelease", "sync/atomic.StoreUint32", "internal/abi.NoEscape"], unfollowed := true, recurses := true, apart := false, narrowed := true }
def ApplyFreshUptoSaid : Prop := applyFreshUptoRow.holds Tryz.pinned (OpenSpec.upto applyFreshSpec)

/-- 'treillagelaw07.ApplyAttrs', WHERE WHAT IT READS IS OF BULK AT MOST 1048576: true; the input reads as it did. -/
def applyAttrsUptoRow : OpenClaim := { program := "ythdenkkllpkplaagreat", sum := "e2747e066e8f9702942fe4925dc413fb5dd12cae3714f18da9cacba050d88a5b", func := "treillage/treillagelaw07.ApplyAttrs", spec := "applyAttrs", inPlace := ["internal/bytealg.IndexByteString", "slices.overlaps[int]", "sync/atomic.LoadUint32", "(*internal/sync.Mutex).Lock", "internal/race.Disable", "sync/atomic.CompareAndSwapInt32", "internal/race.Enable", "internal/race.Acquire", "(*internal/sync.Mutex).lockSlow", "internal/sync.runtime_canSpin", "internal/sync.runtime_doSpin", "internal/sync.throw", "internal/sync.runtime_nanotime", "internal/sync.runtime_SemacquireMutex", "sync/atomic.AddInt32", "(*internal/sync.Mutex).Unlock", "internal/race.ReleaseMerge", "(*internal/sync.Mutex).unlockSlow", "internal/sync.fatal", "internal/sync.runtime_Semrelease", "sync/atomic.StoreUint32", "internal/abi.NoEscape"], unfollowed := true, recurses := true, apart := false, narrowed := true }
def ApplyAttrsUptoSaid : Prop := applyAttrsUptoRow.holds Tryz.pinned (OpenSpec.upto applyAttrsSpec)

/-- 'treillagelaw07.ApplyKeeps', WHERE WHAT IT READS IS OF BULK AT MOST 1048576: true; the input reads as it did. -/
def applyKeepsUptoRow : OpenClaim := { program := "ythdenkkllpkplaagreat", sum := "e2747e066e8f9702942fe4925dc413fb5dd12cae3714f18da9cacba050d88a5b", func := "treillage/treillagelaw07.ApplyKeeps", spec := "applyKeeps", inPlace := ["internal/bytealg.IndexByteString", "slices.overlaps[int]", "sync/atomic.LoadUint32", "(*internal/sync.Mutex).Lock", "internal/race.Disable", "sync/atomic.CompareAndSwapInt32", "internal/race.Enable", "internal/race.Acquire", "(*internal/sync.Mutex).lockSlow", "internal/sync.runtime_canSpin", "internal/sync.runtime_doSpin", "internal/sync.throw", "internal/sync.runtime_nanotime", "internal/sync.runtime_SemacquireMutex", "sync/atomic.AddInt32", "(*internal/sync.Mutex).Unlock", "internal/race.ReleaseMerge", "(*internal/sync.Mutex).unlockSlow", "internal/sync.fatal", "internal/sync.runtime_Semrelease", "sync/atomic.StoreUint32", "internal/abi.NoEscape"], unfollowed := true, recurses := true, apart := false, narrowed := true }
def ApplyKeepsUptoSaid : Prop := applyKeepsUptoRow.holds Tryz.pinned (OpenSpec.upto applyKeepsSpec)

/-- 'treillagelaw10.FindTells', WHERE WHAT IT READS IS OF BULK AT MOST 1048576: true; the input reads as it did. -/
def findTellsUptoRow : OpenClaim := { program := "ythdenkkllpkplaagreat", sum := "e2747e066e8f9702942fe4925dc413fb5dd12cae3714f18da9cacba050d88a5b", func := "treillage/treillagelaw10.FindTells", spec := "findTells", inPlace := ["internal/bytealg.IndexByteString", "slices.overlaps[int]", "internal/bytealg.IndexString"], unfollowed := true, recurses := true, named := ["internal/bytealg.MaxLen"], apart := false, narrowed := true }
def FindTellsUptoSaid : Prop := findTellsUptoRow.holds Tryz.pinned (OpenSpec.upto findTellsSpec)

/-- 'treillagelaw10.FindTexts', WHERE WHAT IT READS IS OF BULK AT MOST 1048576: true; the input reads as it did. -/
def findTextsUptoRow : OpenClaim := { program := "ythdenkkllpkplaagreat", sum := "e2747e066e8f9702942fe4925dc413fb5dd12cae3714f18da9cacba050d88a5b", func := "treillage/treillagelaw10.FindTexts", spec := "findTexts", inPlace := ["internal/bytealg.IndexByteString", "slices.overlaps[int]", "internal/bytealg.IndexString"], unfollowed := true, recurses := true, named := ["internal/bytealg.MaxLen"], apart := false, narrowed := true }
def FindTextsUptoSaid : Prop := findTextsUptoRow.holds Tryz.pinned (OpenSpec.upto findTextsSpec)

/-- 'treillagelaw10.FindBoth', WHERE WHAT IT READS IS OF BULK AT MOST 1048576: true; the input reads as it did. -/
def findBothUptoRow : OpenClaim := { program := "ythdenkkllpkplaagreat", sum := "e2747e066e8f9702942fe4925dc413fb5dd12cae3714f18da9cacba050d88a5b", func := "treillage/treillagelaw10.FindBoth", spec := "findBoth", inPlace := ["internal/bytealg.IndexByteString", "slices.overlaps[int]", "internal/bytealg.IndexString"], unfollowed := true, recurses := true, named := ["internal/bytealg.MaxLen"], apart := false, narrowed := true }
def FindBothUptoSaid : Prop := findBothUptoRow.holds Tryz.pinned (OpenSpec.upto findBothSpec)

/-- 'treillagelaw10.FindBelow', WHERE WHAT IT READS IS OF BULK AT MOST 1048576: true; the input reads as it did. -/
def findBelowUptoRow : OpenClaim := { program := "ythdenkkllpkplaagreat", sum := "e2747e066e8f9702942fe4925dc413fb5dd12cae3714f18da9cacba050d88a5b", func := "treillage/treillagelaw10.FindBelow", spec := "findBelow", inPlace := ["internal/bytealg.IndexByteString", "slices.overlaps[int]", "internal/bytealg.IndexString"], unfollowed := true, recurses := true, named := ["internal/bytealg.MaxLen"], apart := false, narrowed := true }
def FindBelowUptoSaid : Prop := findBelowUptoRow.holds Tryz.pinned (OpenSpec.upto findBelowSpec)

/-- 'treillagelaw10.FindStar', WHERE WHAT IT READS IS OF BULK AT MOST 1048576: true; the input reads as it did. -/
def findStarUptoRow : OpenClaim := { program := "ythdenkkllpkplaagreat", sum := "e2747e066e8f9702942fe4925dc413fb5dd12cae3714f18da9cacba050d88a5b", func := "treillage/treillagelaw10.FindStar", spec := "findStar", inPlace := ["internal/bytealg.IndexByteString", "slices.overlaps[int]", "internal/bytealg.IndexString"], unfollowed := true, recurses := true, named := ["internal/bytealg.MaxLen"], apart := false, narrowed := true }
def FindStarUptoSaid : Prop := findStarUptoRow.holds Tryz.pinned (OpenSpec.upto findStarSpec)

/-- 'treillagelaw10.FindMore', WHERE WHAT IT READS IS OF BULK AT MOST 1048576: true; the input reads as it did. -/
def findMoreUptoRow : OpenClaim := { program := "ythdenkkllpkplaagreat", sum := "e2747e066e8f9702942fe4925dc413fb5dd12cae3714f18da9cacba050d88a5b", func := "treillage/treillagelaw10.FindMore", spec := "findMore", inPlace := ["internal/bytealg.IndexByteString", "slices.overlaps[int]", "internal/bytealg.IndexString"], unfollowed := true, recurses := true, named := ["internal/bytealg.MaxLen"], apart := false, narrowed := true }
def FindMoreUptoSaid : Prop := findMoreUptoRow.holds Tryz.pinned (OpenSpec.upto findMoreSpec)

/-- 'treillagelaw10.FindIds', WHERE WHAT IT READS IS OF BULK AT MOST 1048576: true; the input reads as it did. -/
def findIdsUptoRow : OpenClaim := { program := "ythdenkkllpkplaagreat", sum := "e2747e066e8f9702942fe4925dc413fb5dd12cae3714f18da9cacba050d88a5b", func := "treillage/treillagelaw10.FindIds", spec := "findIds", inPlace := ["internal/bytealg.IndexByteString", "slices.overlaps[int]", "internal/bytealg.IndexString"], unfollowed := true, recurses := true, named := ["internal/bytealg.MaxLen"], apart := false, narrowed := true }
def FindIdsUptoSaid : Prop := findIdsUptoRow.holds Tryz.pinned (OpenSpec.upto findIdsSpec)

end Rows
end Go.Proofs.YthdenkkllpkplaaGreat
