/- A part of the proof: tools. No condition. -/
import Derived.Shelf.LaysM
import Derived.Shelf.Strings.Split
import Derived.Shelf.Strings.SplitShaped
import Derived.Shelf.Bits.Mul64
import Derived.Test.YtmpdgijnoekfmaaGreatDoorProg
set_option linter.all false
namespace Go.Proofs
open Go.Shelf
def Tryz.laysM146_ren : Go.Shelf.Ren := ⟨fun | 146 => 19 | 221 => 32 | 268 => 46 | 138 => 47 | 143 => 48 | 195 => 67 | 197 => 68 | 218 => 69 | 219 => 70 | 260 => 78 | 217 => 56 | 225 => 79 | 224 => 80 | 267 => 81 | 266 => 71 | 314 => 84 | n => n, fun | 9 => 9 | 31 => 31 | 3 => 3 | 4 => 4 | 0 => 0 | 105 => 97 | 21 => 21 | 5 => 5 | 46 => 53 | 119 => 110 | 139 => 113 | 138 => 112 | 146 => 115 | 51 => 114 | n => n, fun | 1 => 0 | 3 => 1 | 4 => 2 | n => n⟩
theorem Tryz.laysM146 : Go.Proofs.LaysM.n146 Tryz.prog Tryz.laysM146_ren := {
 mixed := by kernel_rfl
 f138 := Tryz.func47.trans (congrArg some (by kernel_rfl))
 f143 := Tryz.func48.trans (congrArg some (by kernel_rfl))
 f146 := Tryz.func19.trans (congrArg some (by kernel_rfl))
 f195 := Tryz.func67.trans (congrArg some (by kernel_rfl))
 f197 := Tryz.func68.trans (congrArg some (by kernel_rfl))
 f217 := Tryz.func56.trans (congrArg some (by kernel_rfl))
 f218 := Tryz.func69.trans (congrArg some (by kernel_rfl))
 f219 := Tryz.func70.trans (congrArg some (by kernel_rfl))
 f221 := Tryz.func32.trans (congrArg some (by kernel_rfl))
 f224 := Tryz.func80.trans (congrArg some (by kernel_rfl))
 f225 := Tryz.func79.trans (congrArg some (by kernel_rfl))
 f260 := Tryz.func78.trans (congrArg some (by kernel_rfl))
 f266 := Tryz.func71.trans (congrArg some (by kernel_rfl))
 f267 := Tryz.func81.trans (congrArg some (by kernel_rfl))
 f268 := Tryz.func46.trans (congrArg some (by kernel_rfl))
 f314 := Tryz.func84.trans (congrArg some (by kernel_rfl))
 t0 := Tryz.underlying0
 a0 := Tryz.isAgg0
 z0 := Tryz.sizeOf0
 v0 := Tryz.zeroValue0
 t3 := Tryz.underlying3
 a3 := Tryz.isAgg3
 z3 := Tryz.sizeOf3
 v3 := Tryz.zeroValue3
 t4 := Tryz.underlying4
 a4 := Tryz.isAgg4
 z4 := Tryz.sizeOf4
 v4 := Tryz.zeroValue4
 t5 := Tryz.underlying5
 a5 := Tryz.isAgg5
 z5 := Tryz.sizeOf5
 v5 := Tryz.zeroValue5
 t9 := Tryz.underlying9
 a9 := Tryz.isAgg9
 z9 := Tryz.sizeOf9
 v9 := Tryz.zeroValue9
 t21 := Tryz.underlying21
 a21 := Tryz.isAgg21
 z21 := Tryz.sizeOf21
 v21 := Tryz.zeroValue21
 t31 := Tryz.underlying31
 a31 := Tryz.isAgg31
 z31 := Tryz.sizeOf31
 v31 := Tryz.zeroValue31
 t46 := Tryz.underlying53
 a46 := Tryz.isAgg53
 z46 := Tryz.sizeOf53
 v46 := Tryz.zeroValue53
 t51 := Tryz.underlying114
 a51 := Tryz.isAgg114
 z51 := Tryz.sizeOf114
 v51 := Tryz.zeroValue114
 t105 := Tryz.underlying97
 a105 := Tryz.isAgg97
 z105 := Tryz.sizeOf97
 v105 := Tryz.zeroValue97
 t119 := Tryz.underlying110
 a119 := Tryz.isAgg110
 z119 := Tryz.sizeOf110
 t138 := Tryz.underlying112
 a138 := Tryz.isAgg112
 z138 := Tryz.sizeOf112
 v138 := Tryz.zeroValue112
 t139 := Tryz.underlying113
 a139 := Tryz.isAgg113
 z139 := Tryz.sizeOf113
 v139 := Tryz.zeroValue113
 t146 := Tryz.underlying115
 a146 := Tryz.isAgg115
 z146 := Tryz.sizeOf115
 v146 := Tryz.zeroValue115
 g1 := by kernel_rfl
 g3 := by kernel_rfl
 g4 := by kernel_rfl
 i0 := by kernel_rfl
 i3 := by kernel_rfl
 i4 := by kernel_rfl
 i5 := by kernel_rfl
 i9 := by kernel_rfl
 i21 := by kernel_rfl
 i31 := by kernel_rfl
 i46 := by kernel_rfl
 i51 := by kernel_rfl
 i105 := by kernel_rfl
 i138 := by kernel_rfl
 i139 := by kernel_rfl
 i146 := by kernel_rfl
 m1 := by kernel_rfl
 s1_3 := fun w h => Go.Proofs.cell_of_shapedOpen_int (zero := #[.int .i64 0]) (t := 3) h (of_decide_eq_true (by kernel_rfl)) (by kernel_rfl) rfl (by kernel_rfl) (by kernel_rfl) Tryz.underlying3
 m3 := by kernel_rfl
 m4 := by kernel_rfl }
open Go.RowKit Go.Lib in
theorem Tryz.strings_Split_shaped (s sep : ByteArray) (w : World) (h : w.ShapedOpen Tryz.prog) (hs : s.size < 4294967281) (h1 : 1 ≤ sep.size) :
  Calls Tryz.prog 19 #[.string s, .string sep] w fun e w' =>
   e = .returned (.slice (some ⟨w.heap.size, 0, none⟩) (Lib.countB s sep + 1) (Lib.countB s sep + 1)) ∧ w' = w.alloc (.cells ((Lib.splitB sep 0 (Lib.countB s sep) s).map Value.string).toArray 9) := Any.strings_Split_shaped Tryz.laysM146 s sep w h hs h1
def Tryz.lays264_ren : Go.Shelf.Ren := ⟨fun | 264 => 53 | n => n, fun | 53 => 71 | 46 => 53 | n => n, fun | n => n⟩
theorem Tryz.lays264 : Go.Proofs.Lays.n264 Tryz.prog Tryz.lays264_ren := {
 mixed := by kernel_rfl
 f264 := Tryz.func53.trans (congrArg some (by kernel_rfl))
 t46 := Tryz.underlying53
 a46 := Tryz.isAgg53
 z46 := Tryz.sizeOf53
 v46 := Tryz.zeroValue53
 t53 := Tryz.underlying71
 a53 := Tryz.isAgg71
 z53 := Tryz.sizeOf71
 v53 := Tryz.zeroValue71 }
open Go.RowKit Go.Lib in
theorem Tryz.bits_Mul64 (x y : Nat) (hx : x < 18446744073709551616) (hy : y < 18446744073709551616) (w : World) :
  Calls Tryz.prog 53 #[.int .u64 x, .int .u64 y] w fun e w' => e = .returned (.tuple #[.int .u64 ((x * y / 18446744073709551616 : Nat) : Int), .int .u64 ((x * y % 18446744073709551616 : Nat) : Int)]) ∧ w' = w := Any.bits_Mul64 Tryz.lays264 x y hx hy w
end Go.Proofs
