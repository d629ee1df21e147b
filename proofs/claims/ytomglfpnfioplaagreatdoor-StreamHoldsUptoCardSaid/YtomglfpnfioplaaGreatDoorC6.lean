/- A part of the proof: tools. No condition. -/
import Derived.Shelf.LaysM
import Derived.Shelf.Strings.Split
import Derived.Shelf.Strings.SplitShaped
import Derived.Test.YtomglfpnfioplaaGreatDoorProg
set_option linter.all false
namespace Go.Proofs
open Go.Shelf
def Tryz.laysM146_ren : Go.Shelf.Ren := ⟨fun | 146 => 25 | 221 => 54 | 268 => 76 | 138 => 77 | 143 => 78 | 195 => 99 | 197 => 100 | 218 => 101 | 219 => 102 | 260 => 120 | 217 => 108 | 225 => 121 | 224 => 122 | 267 => 123 | 266 => 131 | 314 => 138 | n => n, fun | 9 => 9 | 31 => 22 | 3 => 3 | 4 => 4 | 0 => 0 | 105 => 131 | 21 => 21 | 5 => 5 | 46 => 157 | 119 => 173 | 139 => 176 | 138 => 175 | 146 => 178 | 51 => 177 | n => n, fun | 1 => 0 | 3 => 1 | 4 => 2 | n => n⟩
theorem Tryz.laysM146 : Go.Proofs.LaysM.n146 Tryz.prog Tryz.laysM146_ren := {
 mixed := by kernel_rfl
 f138 := Tryz.func77.trans (congrArg some (by kernel_rfl))
 f143 := Tryz.func78.trans (congrArg some (by kernel_rfl))
 f146 := Tryz.func25.trans (congrArg some (by kernel_rfl))
 f195 := Tryz.func99.trans (congrArg some (by kernel_rfl))
 f197 := Tryz.func100.trans (congrArg some (by kernel_rfl))
 f217 := Tryz.func108.trans (congrArg some (by kernel_rfl))
 f218 := Tryz.func101.trans (congrArg some (by kernel_rfl))
 f219 := Tryz.func102.trans (congrArg some (by kernel_rfl))
 f221 := Tryz.func54.trans (congrArg some (by kernel_rfl))
 f224 := Tryz.func122.trans (congrArg some (by kernel_rfl))
 f225 := Tryz.func121.trans (congrArg some (by kernel_rfl))
 f260 := Tryz.func120.trans (congrArg some (by kernel_rfl))
 f266 := Tryz.func131.trans (congrArg some (by kernel_rfl))
 f267 := Tryz.func123.trans (congrArg some (by kernel_rfl))
 f268 := Tryz.func76.trans (congrArg some (by kernel_rfl))
 f314 := Tryz.func138.trans (congrArg some (by kernel_rfl))
 t0 := Tryz.underlying0
 a0 := Tryz.isAgg0
 z0 := Tryz.sizeOf0
 v0 := Tryz.zeroValue0
 t3 := Tryz.underlying3
 a3 := Tryz.isAgg3
 z3 := Tryz.sizeOf3
 v3 := Tryz.zeroValue3
 t4 := Tryz.underlying4
 a4 := Tryz.isAgg4
 z4 := Tryz.sizeOf4
 v4 := Tryz.zeroValue4
 t5 := Tryz.underlying5
 a5 := Tryz.isAgg5
 z5 := Tryz.sizeOf5
 v5 := Tryz.zeroValue5
 t9 := Tryz.underlying9
 a9 := Tryz.isAgg9
 z9 := Tryz.sizeOf9
 v9 := Tryz.zeroValue9
 t21 := Tryz.underlying21
 a21 := Tryz.isAgg21
 z21 := Tryz.sizeOf21
 v21 := Tryz.zeroValue21
 t31 := Tryz.underlying22
 a31 := Tryz.isAgg22
 z31 := Tryz.sizeOf22
 v31 := Tryz.zeroValue22
 t46 := Tryz.underlying157
 a46 := Tryz.isAgg157
 z46 := Tryz.sizeOf157
 v46 := Tryz.zeroValue157
 t51 := Tryz.underlying177
 a51 := Tryz.isAgg177
 z51 := Tryz.sizeOf177
 v51 := Tryz.zeroValue177
 t105 := Tryz.underlying131
 a105 := Tryz.isAgg131
 z105 := Tryz.sizeOf131
 v105 := Tryz.zeroValue131
 t119 := Tryz.underlying173
 a119 := Tryz.isAgg173
 z119 := Tryz.sizeOf173
 t138 := Tryz.underlying175
 a138 := Tryz.isAgg175
 z138 := Tryz.sizeOf175
 v138 := Tryz.zeroValue175
 t139 := Tryz.underlying176
 a139 := Tryz.isAgg176
 z139 := Tryz.sizeOf176
 v139 := Tryz.zeroValue176
 t146 := Tryz.underlying178
 a146 := Tryz.isAgg178
 z146 := Tryz.sizeOf178
 v146 := Tryz.zeroValue178
 g1 := by kernel_rfl
 g3 := by kernel_rfl
 g4 := by kernel_rfl
 i0 := by kernel_rfl
 i3 := by kernel_rfl
 i4 := by kernel_rfl
 i5 := by kernel_rfl
 i9 := by kernel_rfl
 i21 := by kernel_rfl
 i31 := by kernel_rfl
 i46 := by kernel_rfl
 i51 := by kernel_rfl
 i105 := by kernel_rfl
 i138 := by kernel_rfl
 i139 := by kernel_rfl
 i146 := by kernel_rfl
 m1 := by kernel_rfl
 s1_3 := fun w h => Go.Proofs.cell_of_shapedOpen_int (zero := #[.int .i64 0]) (t := 3) h (of_decide_eq_true (by kernel_rfl)) (by kernel_rfl) rfl (by kernel_rfl) (by kernel_rfl) Tryz.underlying3
 m3 := by kernel_rfl
 m4 := by kernel_rfl }
open Go.RowKit Go.Lib in
theorem Tryz.strings_Split_shaped (s sep : ByteArray) (w : World) (h : w.ShapedOpen Tryz.prog) (hs : s.size < 4294967281) (h1 : 1 ≤ sep.size) :
  Calls Tryz.prog 25 #[.string s, .string sep] w fun e w' =>
   e = .returned (.slice (some ⟨w.heap.size, 0, none⟩) (Lib.countB s sep + 1) (Lib.countB s sep + 1)) ∧ w' = w.alloc (.cells ((Lib.splitB sep 0 (Lib.countB s sep) s).map Value.string).toArray 9) := Any.strings_Split_shaped Tryz.laysM146 s sep w h hs h1
end Go.Proofs
