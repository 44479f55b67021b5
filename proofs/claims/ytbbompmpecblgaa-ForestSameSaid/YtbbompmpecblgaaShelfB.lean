/- Library contracts laid by hand: strings.Builder (the layer's own program finds no number for a type that no body names), strings.Count. -/
import Derived.Shelf.Strings.Count
import Derived.Shelf.Strings.Builder1
import Derived.Shelf.Strings.BuilderK
import Derived.Test.YtbbompmpecblgaaProg
import Derived.KernelRfl
namespace Go.Proofs.Ytbbompmpecblgaa.ShelfB
open Go.Shelf Go.Proofs
def ren : Go.Shelf.Ren := ⟨fun | 166 => 71 | 240 => 89 | 276 => 103 | 169 => 73 | n => n,
  fun | 70 => 89 | 9 => 9 | 0 => 0 | 72 => 91 | 37 => 23 | 127 => 135 | 3 => 3 | 5 => 5 | 4 => 4 | 20 => 20 | 75 => 96 | 164 => 156 | 80 => 99 | n => n, fun | n => n⟩
theorem lays166 : Go.Proofs.Lays.n166 Try.prog ren := {
  mixed := by kernel_rfl
  f166 := Try.func71.trans (congrArg some (by kernel_rfl))
  f240 := Try.func89.trans (congrArg some (by kernel_rfl))
  f276 := Try.func103.trans (congrArg some (by kernel_rfl))
  t0 := Try.underlying0
  a0 := Try.isAgg0
  z0 := Try.sizeOf0
  v0 := Try.zeroValue0
  t3 := Try.underlying3
  a3 := Try.isAgg3
  z3 := Try.sizeOf3
  v3 := Try.zeroValue3
  t4 := Try.underlying4
  a4 := Try.isAgg4
  z4 := Try.sizeOf4
  v4 := Try.zeroValue4
  t9 := Try.underlying9
  a9 := Try.isAgg9
  z9 := Try.sizeOf9
  v9 := Try.zeroValue9
  t20 := Try.underlying20
  a20 := Try.isAgg20
  z20 := Try.sizeOf20
  v20 := Try.zeroValue20
  t37 := Try.underlying23
  a37 := Try.isAgg23
  z37 := Try.sizeOf23
  v37 := Try.zeroValue23
  t70 := Try.underlying89
  a70 := Try.isAgg89
  z70 := Try.sizeOf89
  v70 := Try.zeroValue89
  t72 := Try.underlying91
  a72 := Try.isAgg91
  z72 := Try.sizeOf91
  v72 := Try.zeroValue91
  t75 := Try.underlying96
  a75 := Try.isAgg96
  z75 := Try.sizeOf96
  v75 := Try.zeroValue96
  t164 := Try.underlying156
  a164 := Try.isAgg156
  z164 := Try.sizeOf156
  v164 := Try.zeroValue156 }
theorem lays240 : Go.Proofs.Lays.n240 Try.prog ren := {
  mixed := by kernel_rfl
  f240 := Try.func89.trans (congrArg some (by kernel_rfl))
  f276 := Try.func103.trans (congrArg some (by kernel_rfl))
  t0 := Try.underlying0
  a0 := Try.isAgg0
  z0 := Try.sizeOf0
  v0 := Try.zeroValue0
  t4 := Try.underlying4
  a4 := Try.isAgg4
  z4 := Try.sizeOf4
  v4 := Try.zeroValue4
  t9 := Try.underlying9
  a9 := Try.isAgg9
  z9 := Try.sizeOf9
  v9 := Try.zeroValue9
  t20 := Try.underlying20
  a20 := Try.isAgg20
  z20 := Try.sizeOf20
  v20 := Try.zeroValue20
  t70 := Try.underlying89
  a70 := Try.isAgg89
  z70 := Try.sizeOf89
  v70 := Try.zeroValue89
  t72 := Try.underlying91
  a72 := Try.isAgg91
  z72 := Try.sizeOf91
  v72 := Try.zeroValue91
  t164 := Try.underlying156
  a164 := Try.isAgg156
  z164 := Try.sizeOf156
  v164 := Try.zeroValue156 }
theorem lays169 : Go.Proofs.Lays.n169 Try.prog ren := {
  mixed := by kernel_rfl
  f169 := Try.func73.trans (congrArg some (by kernel_rfl))
  t0 := Try.underlying0
  a0 := Try.isAgg0
  z0 := Try.sizeOf0
  v0 := Try.zeroValue0
  t3 := Try.underlying3
  a3 := Try.isAgg3
  z3 := Try.sizeOf3
  v3 := Try.zeroValue3
  t9 := Try.underlying9
  a9 := Try.isAgg9
  z9 := Try.sizeOf9
  v9 := Try.zeroValue9
  t37 := Try.underlying23
  a37 := Try.isAgg23
  z37 := Try.sizeOf23
  v37 := Try.zeroValue23
  t70 := Try.underlying89
  a70 := Try.isAgg89
  z70 := Try.sizeOf89
  v70 := Try.zeroValue89
  t72 := Try.underlying91
  a72 := Try.isAgg91
  z72 := Try.sizeOf91
  v72 := Try.zeroValue91
  t127 := Try.underlying135
  a127 := Try.isAgg135
  z127 := Try.sizeOf135
  v127 := Try.zeroValue135 }
theorem extra : Builder.Extra Try.prog ren where
  sizeBuilder := by kernel_rfl
  liesBuilder := by kernel_rfl
  t5 := Try.underlying5
  a5 := Try.isAgg5
  z5 := Try.sizeOf5
  v5 := Try.zeroValue5
  infoByte := by kernel_rfl
  cellsByte := by kernel_rfl
  sizeByte := by kernel_rfl
  neB5 := by decide
open Go Go.RowKit in
theorem copyCheck_used (b : Nat) (w : World) (h0 : w.cell? ⟨b, 0, none⟩ = some (.pointer (some ⟨b, 0, none⟩))) : Calls Try.prog 89 #[.pointer (some ⟨b, 0, none⟩)] w fun e w' => e = .returned (.tuple #[]) ∧ w' = w :=
  Any.Builder_copyCheck_used lays240 extra.toX72 b w h0
open Go Go.RowKit in
theorem copyCheck_fresh (b : Nat) (w : World) (h0 : w.cell? ⟨b, 0, none⟩ = some (.pointer none)) (hsh : w.shape? b = some (91, 2)) (hfz : w.frozen? ⟨b, 0, none⟩ = false) :
    Calls Try.prog 89 #[.pointer (some ⟨b, 0, none⟩)] w fun e w' => e = .returned (.tuple #[]) ∧ w' = w.setCell ⟨b, 0, none⟩ (.pointer (some ⟨b, 0, none⟩)) :=
  Any.Builder_copyCheck_fresh lays240 extra.toX72 b w h0 hsh hfz
open Go Go.RowKit in
theorem String_any (B b : Nat) (l : List UInt8) (w : World) (h : Lib.IsBuilder 91 5 B b (Lib.byteCells l) w) (hBw : B ≤ w.heap.size) :
    Calls Try.prog 73 #[.pointer (some ⟨b, 0, none⟩)] w fun e w' => e = .returned (.string ⟨l.toArray⟩) ∧ Below B w w' := Any.Builder_String_any lays169 extra B b l w h hBw
end Go.Proofs.Ytbbompmpecblgaa.ShelfB
