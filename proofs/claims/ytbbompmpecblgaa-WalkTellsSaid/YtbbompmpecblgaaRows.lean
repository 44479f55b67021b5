/-
  No cell of these rows narrows 'for every input' (looked for: loops, veiled, ifaces, maps, wideKeys, modest, calm, conditions, laid).
  DERIVED. THE GIVEN ROWS OF THIS SEAT. 16 by the template 'for every input the law returns true; each argument reads behind the call as it read before'; 0 by the template 'total and deterministic' (their statements: YtbbompmpecblgaaTotals.lean).
  GIVEN WITH THE SEED: the statements are not yours to turn. If you find one false, say at which input.
  Laid BY PROGRAM, IN A SANDBOX (cutbox-rows.mjs): the forced cells as the released guide's own fill.sh prints them over the translation 7f7fe755dcf1ede2… (all of the seat's roots in one cut). By AI agents, Wed Nov 11 2026. No macro, syntax, notation, axiom, sorry.
-/
import Derived.Test.YtbbompmpecblgaaChecked
import GoSem.Claim
import GoSem.ClaimJoined
import GoSem.ClaimMapViews
import Derived.JoinedTies
import Derived.KernelRfl
namespace Go.Proofs.Ytbbompmpecblgaa
/- THE CELL 'sum', in the pinned program and in every row, IS THE sha256 OF THE DUMP (.gsa) THAT YtbbompmpecblgaaProg.lean LOADS. Nothing in Lean hashes anything: it is a label: what it is worth is what the hold of that sum in a sandbox is worth. -/
noncomputable def Try.pinned : Pinned := { name := "ytbbompmpecblgaa", sum := "7f7fe755dcf1ede20000b346f7ed86ce715805d6be03c658a6063610b609017c", checked := Try.checked }
namespace Rows
def none {H : Type} : Left H := { results := [], args := [] }

/-- 'treillagelaw02.WordTokens': WHATEVER THE INPUT: true; the input reads as it did. -/
def wordTokensSpec : ChangeSpec := { name := "wordTokens", fn := fun _ => fun
  | [d1, d2] => { results := [.lit (.bool true)], args := [d1, d2] }
  | _ => none }
def wordTokensRow : OpenClaim := { program := "ytbbompmpecblgaa", sum := "7f7fe755dcf1ede20000b346f7ed86ce715805d6be03c658a6063610b609017c", func := "treillage/treillagelaw02.WordTokens", spec := "wordTokens", inPlace := ["internal/bytealg.IndexByteString", "internal/bytealg.IndexString"], unfollowed := true, recurses := true, named := ["internal/bytealg.MaxLen"], apart := false }
def WordTokensSaid : Prop := wordTokensRow.holds Try.pinned (OpenSpec.ofChange wordTokensSpec)

/-- ITS FALSE NEIGHBOUR: 'it returns false'. Refute it at one input. -/
def wordTokensWrong : ChangeSpec := { name := "wordTokens", fn := fun _ => fun
  | [d1, d2] => { results := [.lit (.bool false)], args := [d1, d2] }
  | _ => none }
def WordTokensWrongFalsely : Prop := wordTokensRow.holds Try.pinned (OpenSpec.ofChange wordTokensWrong)

/-- 'treillagelaw02.WordFolds': WHATEVER THE INPUT: true; the input reads as it did. -/
def wordFoldsSpec : ChangeSpec := { name := "wordFolds", fn := fun _ => fun
  | [d] => { results := [.lit (.bool true)], args := [d] }
  | _ => none }
def wordFoldsRow : OpenClaim := { program := "ytbbompmpecblgaa", sum := "7f7fe755dcf1ede20000b346f7ed86ce715805d6be03c658a6063610b609017c", func := "treillage/treillagelaw02.WordFolds", spec := "wordFolds", inPlace := ["internal/bytealg.IndexByteString", "internal/bytealg.IndexString"], unfollowed := true, recurses := true, named := ["internal/bytealg.MaxLen"], apart := false }
def WordFoldsSaid : Prop := wordFoldsRow.holds Try.pinned (OpenSpec.ofChange wordFoldsSpec)

/-- ITS FALSE NEIGHBOUR: 'it returns false'. Refute it at one input. -/
def wordFoldsWrong : ChangeSpec := { name := "wordFolds", fn := fun _ => fun
  | [d] => { results := [.lit (.bool false)], args := [d] }
  | _ => none }
def WordFoldsWrongFalsely : Prop := wordFoldsRow.holds Try.pinned (OpenSpec.ofChange wordFoldsWrong)

/-- 'treillagelaw02.WordJoins': WHATEVER THE INPUT: true; the input reads as it did. -/
def wordJoinsSpec : ChangeSpec := { name := "wordJoins", fn := fun _ => fun
  | [d1, d2] => { results := [.lit (.bool true)], args := [d1, d2] }
  | _ => none }
def wordJoinsRow : OpenClaim := { program := "ytbbompmpecblgaa", sum := "7f7fe755dcf1ede20000b346f7ed86ce715805d6be03c658a6063610b609017c", func := "treillage/treillagelaw02.WordJoins", spec := "wordJoins", inPlace := ["internal/bytealg.IndexByteString", "internal/bytealg.IndexString"], unfollowed := true, recurses := true, named := ["internal/bytealg.MaxLen"], apart := false }
def WordJoinsSaid : Prop := wordJoinsRow.holds Try.pinned (OpenSpec.ofChange wordJoinsSpec)

/-- ITS FALSE NEIGHBOUR: 'it returns false'. Refute it at one input. -/
def wordJoinsWrong : ChangeSpec := { name := "wordJoins", fn := fun _ => fun
  | [d1, d2] => { results := [.lit (.bool false)], args := [d1, d2] }
  | _ => none }
def WordJoinsWrongFalsely : Prop := wordJoinsRow.holds Try.pinned (OpenSpec.ofChange wordJoinsWrong)

/-- 'treillagelaw02.WordNames': WHATEVER THE INPUT: true; the input reads as it did. -/
def wordNamesSpec : ChangeSpec := { name := "wordNames", fn := fun _ => fun
  | [d1, d2] => { results := [.lit (.bool true)], args := [d1, d2] }
  | _ => none }
def wordNamesRow : OpenClaim := { program := "ytbbompmpecblgaa", sum := "7f7fe755dcf1ede20000b346f7ed86ce715805d6be03c658a6063610b609017c", func := "treillage/treillagelaw02.WordNames", spec := "wordNames", inPlace := ["internal/bytealg.IndexByteString", "internal/bytealg.IndexString"], unfollowed := true, recurses := true, named := ["internal/bytealg.MaxLen"], apart := false }
def WordNamesSaid : Prop := wordNamesRow.holds Try.pinned (OpenSpec.ofChange wordNamesSpec)

/-- ITS FALSE NEIGHBOUR: 'it returns false'. Refute it at one input. -/
def wordNamesWrong : ChangeSpec := { name := "wordNames", fn := fun _ => fun
  | [d1, d2] => { results := [.lit (.bool false)], args := [d1, d2] }
  | _ => none }
def WordNamesWrongFalsely : Prop := wordNamesRow.holds Try.pinned (OpenSpec.ofChange wordNamesWrong)

/-- 'treillagelaw02.WordLeaves': WHATEVER THE INPUT: true; the input reads as it did. -/
def wordLeavesSpec : ChangeSpec := { name := "wordLeaves", fn := fun _ => fun
  | [d] => { results := [.lit (.bool true)], args := [d] }
  | _ => none }
def wordLeavesRow : OpenClaim := { program := "ytbbompmpecblgaa", sum := "7f7fe755dcf1ede20000b346f7ed86ce715805d6be03c658a6063610b609017c", func := "treillage/treillagelaw02.WordLeaves", spec := "wordLeaves", inPlace := ["internal/bytealg.IndexByteString", "internal/bytealg.IndexString"], unfollowed := true, recurses := true, named := ["internal/bytealg.MaxLen"], apart := false }
def WordLeavesSaid : Prop := wordLeavesRow.holds Try.pinned (OpenSpec.ofChange wordLeavesSpec)

/-- ITS FALSE NEIGHBOUR: 'it returns false'. Refute it at one input. -/
def wordLeavesWrong : ChangeSpec := { name := "wordLeaves", fn := fun _ => fun
  | [d] => { results := [.lit (.bool false)], args := [d] }
  | _ => none }
def WordLeavesWrongFalsely : Prop := wordLeavesRow.holds Try.pinned (OpenSpec.ofChange wordLeavesWrong)

/-- 'treillagelaw05.ForestSame': WHATEVER THE INPUT: true; the input reads as it did. -/
def forestSameSpec : ChangeSpec := { name := "forestSame", fn := fun _ => fun
  | [d1, d2] => { results := [.lit (.bool true)], args := [d1, d2] }
  | _ => none }
def forestSameRow : OpenClaim := { program := "ytbbompmpecblgaa", sum := "7f7fe755dcf1ede20000b346f7ed86ce715805d6be03c658a6063610b609017c", func := "treillage/treillagelaw05.ForestSame", spec := "forestSame", inPlace := ["internal/bytealg.IndexByteString", "sync/atomic.LoadUint32", "(*internal/sync.Mutex).Lock", "internal/race.Disable", "sync/atomic.CompareAndSwapInt32", "internal/race.Enable", "internal/race.Acquire", "(*internal/sync.Mutex).lockSlow", "internal/sync.runtime_canSpin", "internal/sync.runtime_doSpin", "internal/sync.throw", "internal/sync.runtime_nanotime", "internal/sync.runtime_SemacquireMutex", "sync/atomic.AddInt32", "(*internal/sync.Mutex).Unlock", "internal/race.ReleaseMerge", "(*internal/sync.Mutex).unlockSlow", "internal/sync.fatal", "internal/sync.runtime_Semrelease", "sync/atomic.StoreUint32", "internal/abi.NoEscape"], unfollowed := true, recurses := true, apart := false }
def ForestSameSaid : Prop := forestSameRow.holds Try.pinned (OpenSpec.ofChange forestSameSpec)

/-- ITS FALSE NEIGHBOUR: 'it returns false'. Refute it at one input. -/
def forestSameWrong : ChangeSpec := { name := "forestSame", fn := fun _ => fun
  | [d1, d2] => { results := [.lit (.bool false)], args := [d1, d2] }
  | _ => none }
def ForestSameWrongFalsely : Prop := forestSameRow.holds Try.pinned (OpenSpec.ofChange forestSameWrong)

/-- 'treillagelaw05.ForestTops': WHATEVER THE INPUT: true; the input reads as it did. -/
def forestTopsSpec : ChangeSpec := { name := "forestTops", fn := fun _ => fun
  | [d] => { results := [.lit (.bool true)], args := [d] }
  | _ => none }
def forestTopsRow : OpenClaim := { program := "ytbbompmpecblgaa", sum := "7f7fe755dcf1ede20000b346f7ed86ce715805d6be03c658a6063610b609017c", func := "treillage/treillagelaw05.ForestTops", spec := "forestTops", inPlace := ["internal/bytealg.IndexByteString", "sync/atomic.LoadUint32", "(*internal/sync.Mutex).Lock", "internal/race.Disable", "sync/atomic.CompareAndSwapInt32", "internal/race.Enable", "internal/race.Acquire", "(*internal/sync.Mutex).lockSlow", "internal/sync.runtime_canSpin", "internal/sync.runtime_doSpin", "internal/sync.throw", "internal/sync.runtime_nanotime", "internal/sync.runtime_SemacquireMutex", "sync/atomic.AddInt32", "(*internal/sync.Mutex).Unlock", "internal/race.ReleaseMerge", "(*internal/sync.Mutex).unlockSlow", "internal/sync.fatal", "internal/sync.runtime_Semrelease", "sync/atomic.StoreUint32", "internal/abi.NoEscape"], unfollowed := true, recurses := true, apart := false }
def ForestTopsSaid : Prop := forestTopsRow.holds Try.pinned (OpenSpec.ofChange forestTopsSpec)

/-- ITS FALSE NEIGHBOUR: 'it returns false'. Refute it at one input. -/
def forestTopsWrong : ChangeSpec := { name := "forestTops", fn := fun _ => fun
  | [d] => { results := [.lit (.bool false)], args := [d] }
  | _ => none }
def ForestTopsWrongFalsely : Prop := forestTopsRow.holds Try.pinned (OpenSpec.ofChange forestTopsWrong)

/-- 'treillagelaw05.ForestPrints': WHATEVER THE INPUT: true; the input reads as it did. -/
def forestPrintsSpec : ChangeSpec := { name := "forestPrints", fn := fun _ => fun
  | [d] => { results := [.lit (.bool true)], args := [d] }
  | _ => none }
def forestPrintsRow : OpenClaim := { program := "ytbbompmpecblgaa", sum := "7f7fe755dcf1ede20000b346f7ed86ce715805d6be03c658a6063610b609017c", func := "treillage/treillagelaw05.ForestPrints", spec := "forestPrints", inPlace := ["internal/bytealg.IndexByteString", "sync/atomic.LoadUint32", "(*internal/sync.Mutex).Lock", "internal/race.Disable", "sync/atomic.CompareAndSwapInt32", "internal/race.Enable", "internal/race.Acquire", "(*internal/sync.Mutex).lockSlow", "internal/sync.runtime_canSpin", "internal/sync.runtime_doSpin", "internal/sync.throw", "internal/sync.runtime_nanotime", "internal/sync.runtime_SemacquireMutex", "sync/atomic.AddInt32", "(*internal/sync.Mutex).Unlock", "internal/race.ReleaseMerge", "(*internal/sync.Mutex).unlockSlow", "internal/sync.fatal", "internal/sync.runtime_Semrelease", "sync/atomic.StoreUint32", "internal/abi.NoEscape"], unfollowed := true, recurses := true, apart := false }
def ForestPrintsSaid : Prop := forestPrintsRow.holds Try.pinned (OpenSpec.ofChange forestPrintsSpec)

/-- ITS FALSE NEIGHBOUR: 'it returns false'. Refute it at one input. -/
def forestPrintsWrong : ChangeSpec := { name := "forestPrints", fn := fun _ => fun
  | [d] => { results := [.lit (.bool false)], args := [d] }
  | _ => none }
def ForestPrintsWrongFalsely : Prop := forestPrintsRow.holds Try.pinned (OpenSpec.ofChange forestPrintsWrong)

/-- 'treillagelaw05.ForestKinds': WHATEVER THE INPUT: true; the input reads as it did. -/
def forestKindsSpec : ChangeSpec := { name := "forestKinds", fn := fun _ => fun
  | [d1, d2, d3, d4] => { results := [.lit (.bool true)], args := [d1, d2, d3, d4] }
  | _ => none }
def forestKindsRow : OpenClaim := { program := "ytbbompmpecblgaa", sum := "7f7fe755dcf1ede20000b346f7ed86ce715805d6be03c658a6063610b609017c", func := "treillage/treillagelaw05.ForestKinds", spec := "forestKinds", inPlace := ["internal/bytealg.IndexByteString", "sync/atomic.LoadUint32", "(*internal/sync.Mutex).Lock", "internal/race.Disable", "sync/atomic.CompareAndSwapInt32", "internal/race.Enable", "internal/race.Acquire", "(*internal/sync.Mutex).lockSlow", "internal/sync.runtime_canSpin", "internal/sync.runtime_doSpin", "internal/sync.throw", "internal/sync.runtime_nanotime", "internal/sync.runtime_SemacquireMutex", "sync/atomic.AddInt32", "(*internal/sync.Mutex).Unlock", "internal/race.ReleaseMerge", "(*internal/sync.Mutex).unlockSlow", "internal/sync.fatal", "internal/sync.runtime_Semrelease", "sync/atomic.StoreUint32", "internal/abi.NoEscape"], unfollowed := true, recurses := true, apart := false }
def ForestKindsSaid : Prop := forestKindsRow.holds Try.pinned (OpenSpec.ofChange forestKindsSpec)

/-- ITS FALSE NEIGHBOUR: 'it returns false'. Refute it at one input. -/
def forestKindsWrong : ChangeSpec := { name := "forestKinds", fn := fun _ => fun
  | [d1, d2, d3, d4] => { results := [.lit (.bool false)], args := [d1, d2, d3, d4] }
  | _ => none }
def ForestKindsWrongFalsely : Prop := forestKindsRow.holds Try.pinned (OpenSpec.ofChange forestKindsWrong)

/-- 'treillagelaw08.WalkContent': WHATEVER THE INPUT: true; the input reads as it did. -/
def walkContentSpec : ChangeSpec := { name := "walkContent", fn := fun _ => fun
  | [d] => { results := [.lit (.bool true)], args := [d] }
  | _ => none }
def walkContentRow : OpenClaim := { program := "ytbbompmpecblgaa", sum := "7f7fe755dcf1ede20000b346f7ed86ce715805d6be03c658a6063610b609017c", func := "treillage/treillagelaw08.WalkContent", spec := "walkContent", inPlace := ["internal/bytealg.IndexByteString", "slices.overlaps[int]", "internal/abi.NoEscape"], unfollowed := true, recurses := true, apart := false }
def WalkContentSaid : Prop := walkContentRow.holds Try.pinned (OpenSpec.ofChange walkContentSpec)

/-- ITS FALSE NEIGHBOUR: 'it returns false'. Refute it at one input. -/
def walkContentWrong : ChangeSpec := { name := "walkContent", fn := fun _ => fun
  | [d] => { results := [.lit (.bool false)], args := [d] }
  | _ => none }
def WalkContentWrongFalsely : Prop := walkContentRow.holds Try.pinned (OpenSpec.ofChange walkContentWrong)

/-- 'treillagelaw08.WalkUp': WHATEVER THE INPUT: true; the input reads as it did. -/
def walkUpSpec : ChangeSpec := { name := "walkUp", fn := fun _ => fun
  | [d] => { results := [.lit (.bool true)], args := [d] }
  | _ => none }
def walkUpRow : OpenClaim := { program := "ytbbompmpecblgaa", sum := "7f7fe755dcf1ede20000b346f7ed86ce715805d6be03c658a6063610b609017c", func := "treillage/treillagelaw08.WalkUp", spec := "walkUp", inPlace := ["internal/bytealg.IndexByteString", "slices.overlaps[int]", "internal/abi.NoEscape"], unfollowed := true, recurses := true, apart := false }
def WalkUpSaid : Prop := walkUpRow.holds Try.pinned (OpenSpec.ofChange walkUpSpec)

/-- ITS FALSE NEIGHBOUR: 'it returns false'. Refute it at one input. -/
def walkUpWrong : ChangeSpec := { name := "walkUp", fn := fun _ => fun
  | [d] => { results := [.lit (.bool false)], args := [d] }
  | _ => none }
def WalkUpWrongFalsely : Prop := walkUpRow.holds Try.pinned (OpenSpec.ofChange walkUpWrong)

/-- 'treillagelaw08.WalkOrder': WHATEVER THE INPUT: true; the input reads as it did. -/
def walkOrderSpec : ChangeSpec := { name := "walkOrder", fn := fun _ => fun
  | [d] => { results := [.lit (.bool true)], args := [d] }
  | _ => none }
def walkOrderRow : OpenClaim := { program := "ytbbompmpecblgaa", sum := "7f7fe755dcf1ede20000b346f7ed86ce715805d6be03c658a6063610b609017c", func := "treillage/treillagelaw08.WalkOrder", spec := "walkOrder", inPlace := ["internal/bytealg.IndexByteString", "slices.overlaps[int]", "internal/abi.NoEscape"], unfollowed := true, recurses := true, apart := false }
def WalkOrderSaid : Prop := walkOrderRow.holds Try.pinned (OpenSpec.ofChange walkOrderSpec)

/-- ITS FALSE NEIGHBOUR: 'it returns false'. Refute it at one input. -/
def walkOrderWrong : ChangeSpec := { name := "walkOrder", fn := fun _ => fun
  | [d] => { results := [.lit (.bool false)], args := [d] }
  | _ => none }
def WalkOrderWrongFalsely : Prop := walkOrderRow.holds Try.pinned (OpenSpec.ofChange walkOrderWrong)

/-- 'treillagelaw08.WalkIds': WHATEVER THE INPUT: true; the input reads as it did. -/
def walkIdsSpec : ChangeSpec := { name := "walkIds", fn := fun _ => fun
  | [d1, d2] => { results := [.lit (.bool true)], args := [d1, d2] }
  | _ => none }
def walkIdsRow : OpenClaim := { program := "ytbbompmpecblgaa", sum := "7f7fe755dcf1ede20000b346f7ed86ce715805d6be03c658a6063610b609017c", func := "treillage/treillagelaw08.WalkIds", spec := "walkIds", inPlace := ["internal/bytealg.IndexByteString", "slices.overlaps[int]", "internal/abi.NoEscape"], unfollowed := true, recurses := true, apart := false }
def WalkIdsSaid : Prop := walkIdsRow.holds Try.pinned (OpenSpec.ofChange walkIdsSpec)

/-- ITS FALSE NEIGHBOUR: 'it returns false'. Refute it at one input. -/
def walkIdsWrong : ChangeSpec := { name := "walkIds", fn := fun _ => fun
  | [d1, d2] => { results := [.lit (.bool false)], args := [d1, d2] }
  | _ => none }
def WalkIdsWrongFalsely : Prop := walkIdsRow.holds Try.pinned (OpenSpec.ofChange walkIdsWrong)

/-- 'treillagelaw08.WalkBeside': WHATEVER THE INPUT: true; the input reads as it did. -/
def walkBesideSpec : ChangeSpec := { name := "walkBeside", fn := fun _ => fun
  | [d1, d2] => { results := [.lit (.bool true)], args := [d1, d2] }
  | _ => none }
def walkBesideRow : OpenClaim := { program := "ytbbompmpecblgaa", sum := "7f7fe755dcf1ede20000b346f7ed86ce715805d6be03c658a6063610b609017c", func := "treillage/treillagelaw08.WalkBeside", spec := "walkBeside", inPlace := ["internal/bytealg.IndexByteString", "slices.overlaps[int]", "internal/abi.NoEscape"], unfollowed := true, recurses := true, apart := false }
def WalkBesideSaid : Prop := walkBesideRow.holds Try.pinned (OpenSpec.ofChange walkBesideSpec)

/-- ITS FALSE NEIGHBOUR: 'it returns false'. Refute it at one input. -/
def walkBesideWrong : ChangeSpec := { name := "walkBeside", fn := fun _ => fun
  | [d1, d2] => { results := [.lit (.bool false)], args := [d1, d2] }
  | _ => none }
def WalkBesideWrongFalsely : Prop := walkBesideRow.holds Try.pinned (OpenSpec.ofChange walkBesideWrong)

/-- 'treillagelaw08.WalkTells': WHATEVER THE INPUT: true; the input reads as it did. -/
def walkTellsSpec : ChangeSpec := { name := "walkTells", fn := fun _ => fun
  | [d1, d2, d3, d4] => { results := [.lit (.bool true)], args := [d1, d2, d3, d4] }
  | _ => none }
def walkTellsRow : OpenClaim := { program := "ytbbompmpecblgaa", sum := "7f7fe755dcf1ede20000b346f7ed86ce715805d6be03c658a6063610b609017c", func := "treillage/treillagelaw08.WalkTells", spec := "walkTells", inPlace := ["internal/bytealg.IndexByteString", "slices.overlaps[int]", "internal/abi.NoEscape"], unfollowed := true, recurses := true, apart := false }
def WalkTellsSaid : Prop := walkTellsRow.holds Try.pinned (OpenSpec.ofChange walkTellsSpec)

/-- ITS FALSE NEIGHBOUR: 'it returns false'. Refute it at one input. -/
def walkTellsWrong : ChangeSpec := { name := "walkTells", fn := fun _ => fun
  | [d1, d2, d3, d4] => { results := [.lit (.bool false)], args := [d1, d2, d3, d4] }
  | _ => none }
def WalkTellsWrongFalsely : Prop := walkTellsRow.holds Try.pinned (OpenSpec.ofChange walkTellsWrong)

/-- 'treillagelaw08.WalkKids': WHATEVER THE INPUT: true; the input reads as it did. -/
def walkKidsSpec : ChangeSpec := { name := "walkKids", fn := fun _ => fun
  | [d] => { results := [.lit (.bool true)], args := [d] }
  | _ => none }
def walkKidsRow : OpenClaim := { program := "ytbbompmpecblgaa", sum := "7f7fe755dcf1ede20000b346f7ed86ce715805d6be03c658a6063610b609017c", func := "treillage/treillagelaw08.WalkKids", spec := "walkKids", inPlace := ["internal/bytealg.IndexByteString", "slices.overlaps[int]", "internal/abi.NoEscape"], unfollowed := true, recurses := true, apart := false }
def WalkKidsSaid : Prop := walkKidsRow.holds Try.pinned (OpenSpec.ofChange walkKidsSpec)

/-- ITS FALSE NEIGHBOUR: 'it returns false'. Refute it at one input. -/
def walkKidsWrong : ChangeSpec := { name := "walkKids", fn := fun _ => fun
  | [d] => { results := [.lit (.bool false)], args := [d] }
  | _ => none }
def WalkKidsWrongFalsely : Prop := walkKidsRow.holds Try.pinned (OpenSpec.ofChange walkKidsWrong)

/- THE SECOND FORM. 'bulk': how many values and letters a reading holds, each counted each time it is reached (what is shared counts as often as it is met; a slice's spare places count too). A statement '..UptoSaid' is the law's where the arguments, and the package variables that the reading takes, are together of bulk at most 1048576: NARROWER than '..Said'. Prove '..Said' where nothing that the law and all that it calls make is longer than what came in: it says more and counts as full. Else prove '..UptoSaid'. A law counts once. -/
mutual
def uptoBulk {H : Type} : DataW H → Nat
  | .lit (.string bytes) => bytes.length + 1
  | .lit _ => 1
  | .nil => 1
  | .ptr d => uptoBulk d + 1
  | .slice elems spare => uptoBulkAll elems + uptoBulkAll spare + 1
  | .agg parts => uptoBulkAll parts + 1
  | .iface _ d => uptoBulk d + 1
  | .map entries => uptoBulkEntries entries + 1
  | .held _ => 1
def uptoBulkAll {H : Type} : List (DataW H) → Nat
  | [] => 0
  | d :: r => uptoBulk d + uptoBulkAll r
def uptoBulkEntries {H : Type} : List (Lit × DataW H) → Nat
  | [] => 0
  | x :: r => uptoBulkEntry x + uptoBulkEntries r
def uptoBulkEntry {H : Type} : Lit × DataW H → Nat
  | (.string bytes, d) => bytes.length + uptoBulk d + 1
  | (_, d) => uptoBulk d + 1
 end
def uptoSmall : (H : Type) → List (DataW H) → Bool := fun _ ds => decide (uptoBulkAll ds ≤ 1048576)
def OpenSpec.upto (s : _root_.Go.ChangeSpec) : _root_.Go.OpenSpec := { _root_.Go.OpenSpec.ofChange s with cond := some uptoSmall }

/-- 'treillagelaw02.WordTokens', WHERE WHAT IT READS IS OF BULK AT MOST 1048576: true; the input reads as it did. -/
def wordTokensUptoRow : OpenClaim := { program := "ytbbompmpecblgaa", sum := "7f7fe755dcf1ede20000b346f7ed86ce715805d6be03c658a6063610b609017c", func := "treillage/treillagelaw02.WordTokens", spec := "wordTokens", inPlace := ["internal/bytealg.IndexByteString", "internal/bytealg.IndexString"], unfollowed := true, recurses := true, named := ["internal/bytealg.MaxLen"], apart := false, narrowed := true }
def WordTokensUptoSaid : Prop := wordTokensUptoRow.holds Try.pinned (OpenSpec.upto wordTokensSpec)

/-- 'treillagelaw02.WordFolds', WHERE WHAT IT READS IS OF BULK AT MOST 1048576: true; the input reads as it did. -/
def wordFoldsUptoRow : OpenClaim := { program := "ytbbompmpecblgaa", sum := "7f7fe755dcf1ede20000b346f7ed86ce715805d6be03c658a6063610b609017c", func := "treillage/treillagelaw02.WordFolds", spec := "wordFolds", inPlace := ["internal/bytealg.IndexByteString", "internal/bytealg.IndexString"], unfollowed := true, recurses := true, named := ["internal/bytealg.MaxLen"], apart := false, narrowed := true }
def WordFoldsUptoSaid : Prop := wordFoldsUptoRow.holds Try.pinned (OpenSpec.upto wordFoldsSpec)

/-- 'treillagelaw02.WordJoins', WHERE WHAT IT READS IS OF BULK AT MOST 1048576: true; the input reads as it did. -/
def wordJoinsUptoRow : OpenClaim := { program := "ytbbompmpecblgaa", sum := "7f7fe755dcf1ede20000b346f7ed86ce715805d6be03c658a6063610b609017c", func := "treillage/treillagelaw02.WordJoins", spec := "wordJoins", inPlace := ["internal/bytealg.IndexByteString", "internal/bytealg.IndexString"], unfollowed := true, recurses := true, named := ["internal/bytealg.MaxLen"], apart := false, narrowed := true }
def WordJoinsUptoSaid : Prop := wordJoinsUptoRow.holds Try.pinned (OpenSpec.upto wordJoinsSpec)

/-- 'treillagelaw02.WordNames', WHERE WHAT IT READS IS OF BULK AT MOST 1048576: true; the input reads as it did. -/
def wordNamesUptoRow : OpenClaim := { program := "ytbbompmpecblgaa", sum := "7f7fe755dcf1ede20000b346f7ed86ce715805d6be03c658a6063610b609017c", func := "treillage/treillagelaw02.WordNames", spec := "wordNames", inPlace := ["internal/bytealg.IndexByteString", "internal/bytealg.IndexString"], unfollowed := true, recurses := true, named := ["internal/bytealg.MaxLen"], apart := false, narrowed := true }
def WordNamesUptoSaid : Prop := wordNamesUptoRow.holds Try.pinned (OpenSpec.upto wordNamesSpec)

/-- 'treillagelaw02.WordLeaves', WHERE WHAT IT READS IS OF BULK AT MOST 1048576: true; the input reads as it did. -/
def wordLeavesUptoRow : OpenClaim := { program := "ytbbompmpecblgaa", sum := "7f7fe755dcf1ede20000b346f7ed86ce715805d6be03c658a6063610b609017c", func := "treillage/treillagelaw02.WordLeaves", spec := "wordLeaves", inPlace := ["internal/bytealg.IndexByteString", "internal/bytealg.IndexString"], unfollowed := true, recurses := true, named := ["internal/bytealg.MaxLen"], apart := false, narrowed := true }
def WordLeavesUptoSaid : Prop := wordLeavesUptoRow.holds Try.pinned (OpenSpec.upto wordLeavesSpec)

/-- 'treillagelaw05.ForestSame', WHERE WHAT IT READS IS OF BULK AT MOST 1048576: true; the input reads as it did. -/
def forestSameUptoRow : OpenClaim := { program := "ytbbompmpecblgaa", sum := "7f7fe755dcf1ede20000b346f7ed86ce715805d6be03c658a6063610b609017c", func := "treillage/treillagelaw05.ForestSame", spec := "forestSame", inPlace := ["internal/bytealg.IndexByteString", "sync/atomic.LoadUint32", "(*internal/sync.Mutex).Lock", "internal/race.Disable", "sync/atomic.CompareAndSwapInt32", "internal/race.Enable", "internal/race.Acquire", "(*internal/sync.Mutex).lockSlow", "internal/sync.runtime_canSpin", "internal/sync.runtime_doSpin", "internal/sync.throw", "internal/sync.runtime_nanotime", "internal/sync.runtime_SemacquireMutex", "sync/atomic.AddInt32", "(*internal/sync.Mutex).Unlock", "internal/race.ReleaseMerge", "(*internal/sync.Mutex).unlockSlow", "internal/sync.fatal", "internal/sync.runtime_Semrelease", "sync/atomic.StoreUint32", "internal/abi.NoEscape"], unfollowed := true, recurses := true, apart := false, narrowed := true }
def ForestSameUptoSaid : Prop := forestSameUptoRow.holds Try.pinned (OpenSpec.upto forestSameSpec)

/-- 'treillagelaw05.ForestTops', WHERE WHAT IT READS IS OF BULK AT MOST 1048576: true; the input reads as it did. -/
def forestTopsUptoRow : OpenClaim := { program := "ytbbompmpecblgaa", sum := "7f7fe755dcf1ede20000b346f7ed86ce715805d6be03c658a6063610b609017c", func := "treillage/treillagelaw05.ForestTops", spec := "forestTops", inPlace := ["internal/bytealg.IndexByteString", "sync/atomic.LoadUint32", "(*internal/sync.Mutex).Lock", "internal/race.Disable", "sync/atomic.CompareAndSwapInt32", "internal/race.Enable", "internal/race.Acquire", "(*internal/sync.Mutex).lockSlow", "internal/sync.runtime_canSpin", "internal/sync.runtime_doSpin", "internal/sync.throw", "internal/sync.runtime_nanotime", "internal/sync.runtime_SemacquireMutex", "sync/atomic.AddInt32", "(*internal/sync.Mutex).Unlock", "internal/race.ReleaseMerge", "(*internal/sync.Mutex).unlockSlow", "internal/sync.fatal", "internal/sync.runtime_Semrelease", "sync/atomic.StoreUint32", "internal/abi.NoEscape"], unfollowed := true, recurses := true, apart := false, narrowed := true }
def ForestTopsUptoSaid : Prop := forestTopsUptoRow.holds Try.pinned (OpenSpec.upto forestTopsSpec)

/-- 'treillagelaw05.ForestPrints', WHERE WHAT IT READS IS OF BULK AT MOST 1048576: true; the input reads as it did. -/
def forestPrintsUptoRow : OpenClaim := { program := "ytbbompmpecblgaa", sum := "7f7fe755dcf1ede20000b346f7ed86ce715805d6be03c658a6063610b609017c", func := "treillage/treillagelaw05.ForestPrints", spec := "forestPrints", inPlace := ["internal/bytealg.IndexByteString", "sync/atomic.LoadUint32", "(*internal/sync.Mutex).Lock", "internal/race.Disable", "sync/atomic.CompareAndSwapInt32", "internal/race.Enable", "internal/race.Acquire", "(*internal/sync.Mutex).lockSlow", "internal/sync.runtime_canSpin", "internal/sync.runtime_doSpin", "internal/sync.throw", "internal/sync.runtime_nanotime", "internal/sync.runtime_SemacquireMutex", "sync/atomic.AddInt32", "(*internal/sync.Mutex).Unlock", "internal/race.ReleaseMerge", "(*internal/sync.Mutex).unlockSlow", "internal/sync.fatal", "internal/sync.runtime_Semrelease", "sync/atomic.StoreUint32", "internal/abi.NoEscape"], unfollowed := true, recurses := true, apart := false, narrowed := true }
def ForestPrintsUptoSaid : Prop := forestPrintsUptoRow.holds Try.pinned (OpenSpec.upto forestPrintsSpec)

/-- 'treillagelaw05.ForestKinds', WHERE WHAT IT READS IS OF BULK AT MOST 1048576: true; the input reads as it did. -/
def forestKindsUptoRow : OpenClaim := { program := "ytbbompmpecblgaa", sum := "7f7fe755dcf1ede20000b346f7ed86ce715805d6be03c658a6063610b609017c", func := "treillage/treillagelaw05.ForestKinds", spec := "forestKinds", inPlace := ["internal/bytealg.IndexByteString", "sync/atomic.LoadUint32", "(*internal/sync.Mutex).Lock", "internal/race.Disable", "sync/atomic.CompareAndSwapInt32", "internal/race.Enable", "internal/race.Acquire", "(*internal/sync.Mutex).lockSlow", "internal/sync.runtime_canSpin", "internal/sync.runtime_doSpin", "internal/sync.throw", "internal/sync.runtime_nanotime", "internal/sync.runtime_SemacquireMutex", "sync/atomic.AddInt32", "(*internal/sync.Mutex).Unlock", "internal/race.ReleaseMerge", "(*internal/sync.Mutex).unlockSlow", "internal/sync.fatal", "internal/sync.runtime_Semrelease", "sync/atomic.StoreUint32", "internal/abi.NoEscape"], unfollowed := true, recurses := true, apart := false, narrowed := true }
def ForestKindsUptoSaid : Prop := forestKindsUptoRow.holds Try.pinned (OpenSpec.upto forestKindsSpec)

/-- 'treillagelaw08.WalkContent', WHERE WHAT IT READS IS OF BULK AT MOST 1048576: true; the input reads as it did. -/
def walkContentUptoRow : OpenClaim := { program := "ytbbompmpecblgaa", sum := "7f7fe755dcf1ede20000b346f7ed86ce715805d6be03c658a6063610b609017c", func := "treillage/treillagelaw08.WalkContent", spec := "walkContent", inPlace := ["internal/bytealg.IndexByteString", "slices.overlaps[int]", "internal/abi.NoEscape"], unfollowed := true, recurses := true, apart := false, narrowed := true }
def WalkContentUptoSaid : Prop := walkContentUptoRow.holds Try.pinned (OpenSpec.upto walkContentSpec)

/-- 'treillagelaw08.WalkUp', WHERE WHAT IT READS IS OF BULK AT MOST 1048576: true; the input reads as it did. -/
def walkUpUptoRow : OpenClaim := { program := "ytbbompmpecblgaa", sum := "7f7fe755dcf1ede20000b346f7ed86ce715805d6be03c658a6063610b609017c", func := "treillage/treillagelaw08.WalkUp", spec := "walkUp", inPlace := ["internal/bytealg.IndexByteString", "slices.overlaps[int]", "internal/abi.NoEscape"], unfollowed := true, recurses := true, apart := false, narrowed := true }
def WalkUpUptoSaid : Prop := walkUpUptoRow.holds Try.pinned (OpenSpec.upto walkUpSpec)

/-- 'treillagelaw08.WalkOrder', WHERE WHAT IT READS IS OF BULK AT MOST 1048576: true; the input reads as it did. -/
def walkOrderUptoRow : OpenClaim := { program := "ytbbompmpecblgaa", sum := "7f7fe755dcf1ede20000b346f7ed86ce715805d6be03c658a6063610b609017c", func := "treillage/treillagelaw08.WalkOrder", spec := "walkOrder", inPlace := ["internal/bytealg.IndexByteString", "slices.overlaps[int]", "internal/abi.NoEscape"], unfollowed := true, recurses := true, apart := false, narrowed := true }
def WalkOrderUptoSaid : Prop := walkOrderUptoRow.holds Try.pinned (OpenSpec.upto walkOrderSpec)

/-- 'treillagelaw08.WalkIds', WHERE WHAT IT READS IS OF BULK AT MOST 1048576: true; the input reads as it did. -/
def walkIdsUptoRow : OpenClaim := { program := "ytbbompmpecblgaa", sum := "7f7fe755dcf1ede20000b346f7ed86ce715805d6be03c658a6063610b609017c", func := "treillage/treillagelaw08.WalkIds", spec := "walkIds", inPlace := ["internal/bytealg.IndexByteString", "slices.overlaps[int]", "internal/abi.NoEscape"], unfollowed := true, recurses := true, apart := false, narrowed := true }
def WalkIdsUptoSaid : Prop := walkIdsUptoRow.holds Try.pinned (OpenSpec.upto walkIdsSpec)

/-- 'treillagelaw08.WalkBeside', WHERE WHAT IT READS IS OF BULK AT MOST 1048576: true; the input reads as it did. -/
def walkBesideUptoRow : OpenClaim := { program := "ytbbompmpecblgaa", sum := "7f7fe755dcf1ede20000b346f7ed86ce715805d6be03c658a6063610b609017c", func := "treillage/treillagelaw08.WalkBeside", spec := "walkBeside", inPlace := ["internal/bytealg.IndexByteString", "slices.overlaps[int]", "internal/abi.NoEscape"], unfollowed := true, recurses := true, apart := false, narrowed := true }
def WalkBesideUptoSaid : Prop := walkBesideUptoRow.holds Try.pinned (OpenSpec.upto walkBesideSpec)

/-- 'treillagelaw08.WalkTells', WHERE WHAT IT READS IS OF BULK AT MOST 1048576: true; the input reads as it did. -/
def walkTellsUptoRow : OpenClaim := { program := "ytbbompmpecblgaa", sum := "7f7fe755dcf1ede20000b346f7ed86ce715805d6be03c658a6063610b609017c", func := "treillage/treillagelaw08.WalkTells", spec := "walkTells", inPlace := ["internal/bytealg.IndexByteString", "slices.overlaps[int]", "internal/abi.NoEscape"], unfollowed := true, recurses := true, apart := false, narrowed := true }
def WalkTellsUptoSaid : Prop := walkTellsUptoRow.holds Try.pinned (OpenSpec.upto walkTellsSpec)

/-- 'treillagelaw08.WalkKids', WHERE WHAT IT READS IS OF BULK AT MOST 1048576: true; the input reads as it did. -/
def walkKidsUptoRow : OpenClaim := { program := "ytbbompmpecblgaa", sum := "7f7fe755dcf1ede20000b346f7ed86ce715805d6be03c658a6063610b609017c", func := "treillage/treillagelaw08.WalkKids", spec := "walkKids", inPlace := ["internal/bytealg.IndexByteString", "slices.overlaps[int]", "internal/abi.NoEscape"], unfollowed := true, recurses := true, apart := false, narrowed := true }
def WalkKidsUptoSaid : Prop := walkKidsUptoRow.holds Try.pinned (OpenSpec.upto walkKidsSpec)

end Rows
end Go.Proofs.Ytbbompmpecblgaa
