/- The kit's library contracts, laid at this program in plain words (wip/shelf.py). -/
import Derived.Shelf.Strings.Count
import Derived.Test.YtbbompmpecblgaaProg
namespace Go.Proofs
open Go.Shelf
def Try.lays138_ren : Go.Shelf.Ren := ⟨fun | 138 => 215 | 195 => 216 | 218 => 217 | 143 => 218 | 219 => 219 | 217 => 85 | 225 => 143 | 224 => 142 | 267 => 220 | 266 => 102 | 314 => 221 | n => n, fun | 9 => 9 | 3 => 3 | 4 => 4 | 5 => 5 | 0 => 0 | 46 => 183 | 146 => 263 | 51 => 121 | n => n, fun | 1 => 0 | n => n⟩
theorem Try.lays138 : Go.Proofs.Lays.n138 Try.prog Try.lays138_ren := {
  mixed := by kernel_rfl
  f138 := Try.func215.trans (congrArg some (by kernel_rfl))
  f143 := Try.func218.trans (congrArg some (by kernel_rfl))
  f195 := Try.func216.trans (congrArg some (by kernel_rfl))
  f217 := Try.func85.trans (congrArg some (by kernel_rfl))
  f218 := Try.func217.trans (congrArg some (by kernel_rfl))
  f219 := Try.func219.trans (congrArg some (by kernel_rfl))
  f224 := Try.func142.trans (congrArg some (by kernel_rfl))
  f225 := Try.func143.trans (congrArg some (by kernel_rfl))
  f266 := Try.func102.trans (congrArg some (by kernel_rfl))
  f267 := Try.func220.trans (congrArg some (by kernel_rfl))
  f314 := Try.func221.trans (congrArg some (by kernel_rfl))
  t0 := Try.underlying0
  a0 := Try.isAgg0
  z0 := Try.sizeOf0
  v0 := Try.zeroValue0
  t3 := Try.underlying3
  a3 := Try.isAgg3
  z3 := Try.sizeOf3
  v3 := Try.zeroValue3
  t4 := Try.underlying4
  a4 := Try.isAgg4
  z4 := Try.sizeOf4
  v4 := Try.zeroValue4
  t5 := Try.underlying5
  a5 := Try.isAgg5
  z5 := Try.sizeOf5
  v5 := Try.zeroValue5
  t9 := Try.underlying9
  a9 := Try.isAgg9
  z9 := Try.sizeOf9
  v9 := Try.zeroValue9
  t46 := Try.underlying183
  a46 := Try.isAgg183
  z46 := Try.sizeOf183
  v46 := Try.zeroValue183
  t51 := Try.underlying121
  a51 := Try.isAgg121
  z51 := Try.sizeOf121
  v51 := Try.zeroValue121
  t146 := Try.underlying263
  a146 := Try.isAgg263
  z146 := Try.sizeOf263
  v146 := Try.zeroValue263
  g1 := by kernel_rfl }
open Go.RowKit Go.Lib in
theorem Try.strings_Count_one (s : ByteArray) (c : UInt8) (w : World) :
    Calls Try.prog 215 #[.string s, .string ⟨#[c]⟩] w fun e w' => e = .returned (.int .i64 (Lib.countByte s.data.toList c)) ∧ w' = w := Any.strings_Count_one Try.lays138 s c w
end Go.Proofs
