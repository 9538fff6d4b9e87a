/-
  Contracts of the library, laid at this program in plain words by the guide's command (chosen by a program).
-/
import Derived.Test.YtaolddgnannojaaDoorProg
import Derived.Shelf.Strings.LastIndex
import Derived.Shelf.Strings.Prefix
import Derived.Shelf.Strings.Split
namespace Go.Proofs
open Go.Shelf
def Tryd.lays148_ren : Go.Shelf.Ren := ⟨fun | 148 => 49 | 222 => 65 | 223 => 66 | 269 => 85 | n => n, fun | 9 => 9 | 3 => 3 | 4 => 4 | 5 => 5 | 146 => 108 | 51 => 104 | 46 => 88 | n => n, fun | n => n⟩
theorem Tryd.lays148 : Go.Proofs.Lays.n148 Tryd.prog Tryd.lays148_ren := {
  mixed := by kernel_rfl
  f148 := Tryd.func49.trans (congrArg some (by kernel_rfl))
  f222 := Tryd.func65.trans (congrArg some (by kernel_rfl))
  f223 := Tryd.func66.trans (congrArg some (by kernel_rfl))
  f269 := Tryd.func85.trans (congrArg some (by kernel_rfl))
  t3 := Tryd.underlying3
  a3 := Tryd.isAgg3
  z3 := Tryd.sizeOf3
  v3 := Tryd.zeroValue3
  t4 := Tryd.underlying4
  a4 := Tryd.isAgg4
  z4 := Tryd.sizeOf4
  v4 := Tryd.zeroValue4
  t5 := Tryd.underlying5
  a5 := Tryd.isAgg5
  z5 := Tryd.sizeOf5
  v5 := Tryd.zeroValue5
  t9 := Tryd.underlying9
  a9 := Tryd.isAgg9
  z9 := Tryd.sizeOf9
  v9 := Tryd.zeroValue9
  t46 := Tryd.underlying88
  a46 := Tryd.isAgg88
  z46 := Tryd.sizeOf88
  v46 := Tryd.zeroValue88
  t51 := Tryd.underlying104
  a51 := Tryd.isAgg104
  z51 := Tryd.sizeOf104
  v51 := Tryd.zeroValue104
  t146 := Tryd.underlying108
  a146 := Tryd.isAgg108
  z146 := Tryd.sizeOf108
  v146 := Tryd.zeroValue108 }
open Go.RowKit Go.Lib in
theorem Tryd.strings_LastIndex_one (s sub : ByteArray) (h1 : sub.size = 1) (hs : s.size < 4611686018427387904) (w : World) :
    Calls Tryd.prog 49 #[.string s, .string sub] w fun e w' => e = .returned (.int .i64 (Lib.lastIndexByte s ((sub[0]'(by omega)).toNat : Int))) ∧ w' = w := Any.strings_LastIndex_one Tryd.lays148 s sub h1 hs w
def Tryd.lays99_ren : Go.Shelf.Ren := ⟨fun | 99 => 42 | 206 => 58 | n => n, fun | 9 => 9 | 4 => 4 | 3 => 3 | n => n, fun | n => n⟩
theorem Tryd.lays99 : Go.Proofs.Lays.n99 Tryd.prog Tryd.lays99_ren := {
  mixed := by kernel_rfl
  f99 := Tryd.func42.trans (congrArg some (by kernel_rfl))
  f206 := Tryd.func58.trans (congrArg some (by kernel_rfl))
  t3 := Tryd.underlying3
  a3 := Tryd.isAgg3
  z3 := Tryd.sizeOf3
  v3 := Tryd.zeroValue3
  t4 := Tryd.underlying4
  a4 := Tryd.isAgg4
  z4 := Tryd.sizeOf4
  v4 := Tryd.zeroValue4
  t9 := Tryd.underlying9
  a9 := Tryd.isAgg9
  z9 := Tryd.sizeOf9
  v9 := Tryd.zeroValue9 }
open Go.RowKit Go.Lib in
theorem Tryd.strings_HasPrefix (s p : ByteArray) (w : World) :
    Calls Tryd.prog 42 #[.string s, .string p] w fun e w' => e = .returned (.bool (Lib.hasPrefix s.data.toList p.data.toList)) ∧ w' = w := Any.strings_HasPrefix Tryd.lays99 s p w
def Tryd.lays146_ren : Go.Shelf.Ren := ⟨fun | 146 => 44 | 221 => 61 | 268 => 82 | 138 => 83 | 143 => 84 | 195 => 93 | 197 => 94 | 218 => 95 | 219 => 96 | 260 => 98 | 217 => 99 | 225 => 100 | 224 => 101 | 267 => 102 | 266 => 103 | 314 => 104 | n => n, fun | 9 => 9 | 31 => 29 | 3 => 3 | 4 => 4 | 0 => 0 | 105 => 118 | 21 => 21 | 5 => 5 | 46 => 88 | 119 => 124 | 139 => 127 | 138 => 126 | 146 => 108 | 51 => 104 | n => n, fun | 1 => 0 | 3 => 1 | 4 => 2 | n => n⟩
theorem Tryd.lays146 : Go.Proofs.Lays.n146 Tryd.prog Tryd.lays146_ren := {
  mixed := by kernel_rfl
  f138 := Tryd.func83.trans (congrArg some (by kernel_rfl))
  f143 := Tryd.func84.trans (congrArg some (by kernel_rfl))
  f146 := Tryd.func44.trans (congrArg some (by kernel_rfl))
  f195 := Tryd.func93.trans (congrArg some (by kernel_rfl))
  f197 := Tryd.func94.trans (congrArg some (by kernel_rfl))
  f217 := Tryd.func99.trans (congrArg some (by kernel_rfl))
  f218 := Tryd.func95.trans (congrArg some (by kernel_rfl))
  f219 := Tryd.func96.trans (congrArg some (by kernel_rfl))
  f221 := Tryd.func61.trans (congrArg some (by kernel_rfl))
  f224 := Tryd.func101.trans (congrArg some (by kernel_rfl))
  f225 := Tryd.func100.trans (congrArg some (by kernel_rfl))
  f260 := Tryd.func98.trans (congrArg some (by kernel_rfl))
  f266 := Tryd.func103.trans (congrArg some (by kernel_rfl))
  f267 := Tryd.func102.trans (congrArg some (by kernel_rfl))
  f268 := Tryd.func82.trans (congrArg some (by kernel_rfl))
  f314 := Tryd.func104.trans (congrArg some (by kernel_rfl))
  t0 := Tryd.underlying0
  a0 := Tryd.isAgg0
  z0 := Tryd.sizeOf0
  v0 := Tryd.zeroValue0
  t3 := Tryd.underlying3
  a3 := Tryd.isAgg3
  z3 := Tryd.sizeOf3
  v3 := Tryd.zeroValue3
  t4 := Tryd.underlying4
  a4 := Tryd.isAgg4
  z4 := Tryd.sizeOf4
  v4 := Tryd.zeroValue4
  t5 := Tryd.underlying5
  a5 := Tryd.isAgg5
  z5 := Tryd.sizeOf5
  v5 := Tryd.zeroValue5
  t9 := Tryd.underlying9
  a9 := Tryd.isAgg9
  z9 := Tryd.sizeOf9
  v9 := Tryd.zeroValue9
  t21 := Tryd.underlying21
  a21 := Tryd.isAgg21
  z21 := Tryd.sizeOf21
  v21 := Tryd.zeroValue21
  t31 := Tryd.underlying29
  a31 := Tryd.isAgg29
  z31 := Tryd.sizeOf29
  v31 := Tryd.zeroValue29
  t46 := Tryd.underlying88
  a46 := Tryd.isAgg88
  z46 := Tryd.sizeOf88
  v46 := Tryd.zeroValue88
  t51 := Tryd.underlying104
  a51 := Tryd.isAgg104
  z51 := Tryd.sizeOf104
  v51 := Tryd.zeroValue104
  t105 := Tryd.underlying118
  a105 := Tryd.isAgg118
  z105 := Tryd.sizeOf118
  v105 := Tryd.zeroValue118
  t119 := Tryd.underlying124
  a119 := Tryd.isAgg124
  z119 := Tryd.sizeOf124
  t138 := Tryd.underlying126
  a138 := Tryd.isAgg126
  z138 := Tryd.sizeOf126
  v138 := Tryd.zeroValue126
  t139 := Tryd.underlying127
  a139 := Tryd.isAgg127
  z139 := Tryd.sizeOf127
  v139 := Tryd.zeroValue127
  t146 := Tryd.underlying108
  a146 := Tryd.isAgg108
  z146 := Tryd.sizeOf108
  v146 := Tryd.zeroValue108
  g1 := by kernel_rfl
  g3 := by kernel_rfl
  g4 := by kernel_rfl }
open Go.RowKit Go.Lib in
theorem Tryd.strings_Split (s sep : ByteArray) (m : Int) (w : World) (hs : s.size < 4294967281) (hm : w.cell? ⟨0, 0, none⟩ = some (.int .i64 m)) (h1 : 1 ≤ sep.size) :
    Calls Tryd.prog 44 #[.string s, .string sep] w fun e w' =>
      e = .returned (.slice (some ⟨w.heap.size, 0, none⟩) (Lib.countB s sep + 1) (Lib.countB s sep + 1)) ∧ w' = w.alloc (.cells ((Lib.splitB sep 0 (Lib.countB s sep) s).map Value.string).toArray 9) := Any.strings_Split Tryd.lays146 (by kernel_rfl) s sep m w hs hm h1
end Go.Proofs
