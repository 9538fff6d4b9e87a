/-
  strings.Builder at this program: WriteByte, WriteString and String (the library's contracts, laid in plain words).
-/
import Derived.Test.YtbmnbhammganfaaDoorProg
import Derived.Shelf.Strings.Builder1
namespace Go.Proofs
open Go.Shelf
def Tryd.wbRen : Go.Shelf.Ren := ⟨fun | 167 => 64 | 240 => 77 | 276 => 91 | 169 => 67 | 166 => 66 | n => n, fun | 0 => 0 | 3 => 3 | 4 => 4 | 5 => 5 | 9 => 9 | 20 => 20 | 37 => 24 | 70 => 124 | 72 => 126 | 75 => 112 | 80 => 128 | 127 => 136 | 164 => 150 | n => n, fun | n => n⟩
theorem Tryd.wbLays167 : Go.Proofs.Lays.n167 Tryd.prog Tryd.wbRen := {
  mixed := by kernel_rfl
  f167 := Tryd.func64.trans (congrArg some (by kernel_rfl))
  f240 := Tryd.func77.trans (congrArg some (by kernel_rfl))
  f276 := Tryd.func91.trans (congrArg some (by kernel_rfl))
  t0 := Tryd.underlying0
  a0 := Tryd.isAgg0
  z0 := Tryd.sizeOf0
  v0 := Tryd.zeroValue0
  t4 := Tryd.underlying4
  a4 := Tryd.isAgg4
  z4 := Tryd.sizeOf4
  v4 := Tryd.zeroValue4
  t5 := Tryd.underlying5
  a5 := Tryd.isAgg5
  z5 := Tryd.sizeOf5
  v5 := Tryd.zeroValue5
  t9 := Tryd.underlying9
  a9 := Tryd.isAgg9
  z9 := Tryd.sizeOf9
  v9 := Tryd.zeroValue9
  t20 := Tryd.underlying20
  a20 := Tryd.isAgg20
  z20 := Tryd.sizeOf20
  v20 := Tryd.zeroValue20
  t37 := Tryd.underlying24
  a37 := Tryd.isAgg24
  z37 := Tryd.sizeOf24
  v37 := Tryd.zeroValue24
  t70 := Tryd.underlying124
  a70 := Tryd.isAgg124
  z70 := Tryd.sizeOf124
  v70 := Tryd.zeroValue124
  t72 := Tryd.underlying126
  a72 := Tryd.isAgg126
  z72 := Tryd.sizeOf126
  v72 := Tryd.zeroValue126
  t75 := Tryd.underlying112
  a75 := Tryd.isAgg112
  z75 := Tryd.sizeOf112
  v75 := Tryd.zeroValue112
  t164 := Tryd.underlying150
  a164 := Tryd.isAgg150
  z164 := Tryd.sizeOf150
  v164 := Tryd.zeroValue150 }
theorem Tryd.wbLays166 : Go.Proofs.Lays.n166 Tryd.prog Tryd.wbRen := {
  mixed := by kernel_rfl
  f166 := Tryd.func66.trans (congrArg some (by kernel_rfl))
  f240 := Tryd.func77.trans (congrArg some (by kernel_rfl))
  f276 := Tryd.func91.trans (congrArg some (by kernel_rfl))
  t0 := Tryd.underlying0
  a0 := Tryd.isAgg0
  z0 := Tryd.sizeOf0
  v0 := Tryd.zeroValue0
  t3 := Tryd.underlying3
  a3 := Tryd.isAgg3
  z3 := Tryd.sizeOf3
  v3 := Tryd.zeroValue3
  t4 := Tryd.underlying4
  a4 := Tryd.isAgg4
  z4 := Tryd.sizeOf4
  v4 := Tryd.zeroValue4
  t9 := Tryd.underlying9
  a9 := Tryd.isAgg9
  z9 := Tryd.sizeOf9
  v9 := Tryd.zeroValue9
  t20 := Tryd.underlying20
  a20 := Tryd.isAgg20
  z20 := Tryd.sizeOf20
  v20 := Tryd.zeroValue20
  t37 := Tryd.underlying24
  a37 := Tryd.isAgg24
  z37 := Tryd.sizeOf24
  v37 := Tryd.zeroValue24
  t70 := Tryd.underlying124
  a70 := Tryd.isAgg124
  z70 := Tryd.sizeOf124
  v70 := Tryd.zeroValue124
  t72 := Tryd.underlying126
  a72 := Tryd.isAgg126
  z72 := Tryd.sizeOf126
  v72 := Tryd.zeroValue126
  t75 := Tryd.underlying112
  a75 := Tryd.isAgg112
  z75 := Tryd.sizeOf112
  v75 := Tryd.zeroValue112
  t164 := Tryd.underlying150
  a164 := Tryd.isAgg150
  z164 := Tryd.sizeOf150
  v164 := Tryd.zeroValue150 }
theorem Tryd.wbLays169 : Go.Proofs.Lays.n169 Tryd.prog Tryd.wbRen := {
  mixed := by kernel_rfl
  f169 := Tryd.func67.trans (congrArg some (by kernel_rfl))
  t0 := Tryd.underlying0
  a0 := Tryd.isAgg0
  z0 := Tryd.sizeOf0
  v0 := Tryd.zeroValue0
  t3 := Tryd.underlying3
  a3 := Tryd.isAgg3
  z3 := Tryd.sizeOf3
  v3 := Tryd.zeroValue3
  t9 := Tryd.underlying9
  a9 := Tryd.isAgg9
  z9 := Tryd.sizeOf9
  v9 := Tryd.zeroValue9
  t37 := Tryd.underlying24
  a37 := Tryd.isAgg24
  z37 := Tryd.sizeOf24
  v37 := Tryd.zeroValue24
  t70 := Tryd.underlying124
  a70 := Tryd.isAgg124
  z70 := Tryd.sizeOf124
  v70 := Tryd.zeroValue124
  t72 := Tryd.underlying126
  a72 := Tryd.isAgg126
  z72 := Tryd.sizeOf126
  v72 := Tryd.zeroValue126
  t127 := Tryd.underlying136
  a127 := Tryd.isAgg136
  z127 := Tryd.sizeOf136
  v127 := Tryd.zeroValue136 }
theorem Tryd.wbExtra : Builder.Extra Tryd.prog Tryd.wbRen := {
  sizeBuilder := by kernel_rfl
  liesBuilder := by kernel_rfl
  t5 := Tryd.underlying5
  a5 := Tryd.isAgg5
  z5 := Tryd.sizeOf5
  v5 := Tryd.zeroValue5
  infoByte := by kernel_rfl
  cellsByte := by kernel_rfl
  sizeByte := by kernel_rfl
  neB5 := by decide }
open Go.RowKit in
theorem Tryd.write_byte (B b : Nat) (bs : List Value) (c : Int) (w : World) (h : Lib.IsBuilder 126 5 B b bs w) (hlen : bs.length + 1 ≤ 140737488355328) (hBw : B ≤ w.heap.size) :
    Calls Tryd.prog 64 #[.pointer (some ⟨b, 0, none⟩), .int .u8 c] w fun e w' => e = .returned .nilIface ∧ (Lib.BuilderAt 126 5 B b (.pointer (some ⟨b, 0, none⟩)) (bs ++ [.int .u8 c]) w' ∧ Below B w w') :=
  Any.Builder_WriteByte Tryd.wbLays167 Tryd.wbExtra B b bs c w h hlen hBw
open Go.RowKit in
theorem Tryd.write_string (B b : Nat) (bs : List Value) (s : ByteArray) (w : World) (h : Lib.IsBuilder 126 5 B b bs w) (hlen : bs.length + s.size ≤ 140737488355328) (hBw : B ≤ w.heap.size) :
    Calls Tryd.prog 66 #[.pointer (some ⟨b, 0, none⟩), .string s] w fun e w' => e = .returned (.tuple #[.int .i64 s.size, .nilIface]) ∧ (Lib.BuilderAt 126 5 B b (.pointer (some ⟨b, 0, none⟩)) (bs ++ Lib.strCells s) w' ∧ Below B w w') :=
  Any.Builder_WriteString Tryd.wbLays166 Tryd.wbExtra B b bs s w h hlen hBw
open Go.RowKit in
theorem Tryd.builder_string (B b : Nat) (l : List UInt8) (w : World) (h : Lib.IsBuilder 126 5 B b (Lib.byteCells l) w) (hBw : B ≤ w.heap.size) :
    Calls Tryd.prog 67 #[.pointer (some ⟨b, 0, none⟩)] w fun e w' => e = .returned (.string ⟨l.toArray⟩) ∧ Below B w w' :=
  Any.Builder_String_any Tryd.wbLays169 Tryd.wbExtra B b l w h hBw
end Go.Proofs
