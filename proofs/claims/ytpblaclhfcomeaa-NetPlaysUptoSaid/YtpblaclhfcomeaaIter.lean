/-
  maps.Keys and slices.Sorted at this program's map of requests: what they answer (the library's contracts, laid by a program of the guide; the layings in plain words).
-/
import Derived.Shelf.SlIter.Nil
import Derived.Shelf.SortM.Plain
import Derived.Shelf.SortM.SortNone
import Derived.Ground.GgzProg
import Derived.Ground.SlgmProg
import Derived.Test.YtpblaclhfcomeaaTotal
namespace Go.Proofs
open Go.RowKit Go.Maps Go.Sort Go.Shelf

def Try.keys36_ren : Go.Shelf.Ren := ⟨fun | 7 => 36 | 10 => 52 | n => n, fun | 23 => 72 | 26 => 9 | 3 => 3 | 28 => 92 | 0 => 0 | 27 => 91 | 33 => 82 | 4 => 4 | n => n, fun | n => n⟩
theorem Try.keys36 : Go.Proofs.SlLaysZ.n7 Try.prog Try.keys36_ren := {
  mixed := by kernel_rfl
  f7 := ⟨Try.f36.name, by decide, Try.func36.trans (congrArg some (by kernel_rfl))⟩
  f10 := ⟨Try.f52.name, by decide, Try.func52.trans (congrArg some (by kernel_rfl))⟩
  t0 := Try.underlying0
  a0 := Try.isAgg0
  z0 := Try.sizeOf0
  v0 := Try.zeroValue0
  t4 := Try.underlying4
  a4 := Try.isAgg4
  z4 := Try.sizeOf4
  v4 := Try.zeroValue4
  t23 := Try.underlying72
  a23 := Try.isAgg72
  z23 := Try.sizeOf72
  v23 := Try.zeroValue72
  t26 := Try.underlying9
  a26 := Try.isAgg9
  z26 := Try.sizeOf9
  v26 := Try.zeroValue9
  t27 := Try.underlying91
  a27 := Try.isAgg91
  z27 := Try.sizeOf91
  v27 := Try.zeroValue91
  t28 := Try.underlying92
  a28 := Try.isAgg92
  z28 := Try.sizeOf92
  v28 := Try.zeroValue92
  t33 := Try.underlying82
  a33 := Try.isAgg82
  z33 := Try.sizeOf82
  v33 := Try.zeroValue82 }

def Try.sorted35_ren : Go.Shelf.Ren := ⟨fun | 6 => 35 | 8 => 50 | 9 => 51 | 11 => 61 | 13 => 63 | 12 => 62 | 23 => 80 | 24 => 81 | 14 => 71 | 15 => 72 | 16 => 73 | 17 => 74 | 18 => 75 | 19 => 76 | 20 => 77 | 21 => 78 | 22 => 79 | 25 => 82 | 26 => 83 | 27 => 84 | 28 => 85 | 29 => 86 | 30 => 87 | 31 => 88 | n => n, fun | 26 => 9 | 28 => 92 | 24 => 41 | 0 => 0 | 3 => 3 | 37 => 110 | 48 => 75 | 50 => 127 | 4 => 4 | 40 => 118 | 39 => 117 | 45 => 123 | 5 => 5 | 9 => 9 | 51 => 128 | 55 => 132 | 57 => 134 | 58 => 135 | 33 => 82 | n => n, fun | n => n⟩
theorem Try.sorted35 : Go.Proofs.SlLaysZ.n6 Try.prog Try.sorted35_ren := {
  mixed := by kernel_rfl
  f6 := ⟨Try.f35.name, by decide, Try.func35.trans (congrArg some (by kernel_rfl))⟩
  f8 := ⟨Try.f50.name, by decide, Try.func50.trans (congrArg some (by kernel_rfl))⟩
  f11 := ⟨Try.f61.name, by decide, Try.func61.trans (congrArg some (by kernel_rfl))⟩
  t0 := Try.underlying0
  a0 := Try.isAgg0
  z0 := Try.sizeOf0
  v0 := Try.zeroValue0
  t24 := Try.underlying41
  a24 := Try.isAgg41
  z24 := Try.sizeOf41
  v24 := Try.zeroValue41
  t26 := Try.underlying9
  a26 := Try.isAgg9
  z26 := Try.sizeOf9
  v26 := Try.zeroValue9
  t28 := Try.underlying92
  a28 := Try.isAgg92
  z28 := Try.sizeOf92
  v28 := Try.zeroValue92
  i26 := by kernel_rfl }

def Try.sort51_ren : Go.Shelf.Ren := ⟨fun | 6 => 51 | 8 => 63 | 9 => 62 | 19 => 80 | 20 => 81 | 21 => 71 | 22 => 72 | 23 => 73 | 24 => 74 | 25 => 75 | 26 => 76 | 27 => 77 | 28 => 78 | 29 => 79 | 36 => 82 | 31 => 83 | 32 => 84 | 37 => 85 | 38 => 86 | 39 => 87 | 41 => 88 | n => n, fun | 27 => 41 | 29 => 9 | 3 => 3 | 32 => 110 | 26 => 41 | 0 => 0 | 44 => 75 | 46 => 127 | 4 => 4 | 36 => 118 | 35 => 117 | 41 => 123 | 5 => 5 | 9 => 9 | 53 => 128 | 57 => 132 | 63 => 134 | 64 => 135 | n => n, fun | n => n⟩
theorem Try.sort51 : Go.Proofs.SlLaysM.n6 Try.prog Try.sort51_ren := {
  mixed := by kernel_rfl
  f6 := ⟨Try.f51.name, by decide, Try.func51.trans (congrArg some (by kernel_rfl))⟩
  f8 := Try.func63.trans (congrArg some (by kernel_rfl))
  f9 := ⟨Try.f62.name, by decide, Try.func62.trans (congrArg some (by kernel_rfl))⟩
  f19 := Try.func80.trans (congrArg some (by kernel_rfl))
  f20 := Try.func81.trans (congrArg some (by kernel_rfl))
  f21 := ⟨Try.f71.name, by decide, Try.func71.trans (congrArg some (by kernel_rfl))⟩
  f22 := ⟨Try.f72.name, by decide, Try.func72.trans (congrArg some (by kernel_rfl))⟩
  f23 := ⟨Try.f73.name, by decide, Try.func73.trans (congrArg some (by kernel_rfl))⟩
  f24 := ⟨Try.f74.name, by decide, Try.func74.trans (congrArg some (by kernel_rfl))⟩
  f25 := ⟨Try.f75.name, by decide, Try.func75.trans (congrArg some (by kernel_rfl))⟩
  f26 := ⟨Try.f76.name, by decide, Try.func76.trans (congrArg some (by kernel_rfl))⟩
  f27 := ⟨Try.f77.name, by decide, Try.func77.trans (congrArg some (by kernel_rfl))⟩
  f28 := ⟨Try.f78.name, by decide, Try.func78.trans (congrArg some (by kernel_rfl))⟩
  f29 := ⟨Try.f79.name, by decide, Try.func79.trans (congrArg some (by kernel_rfl))⟩
  f31 := Try.func83.trans (congrArg some (by kernel_rfl))
  f32 := Try.func84.trans (congrArg some (by kernel_rfl))
  f36 := ⟨Try.f82.name, by decide, Try.func82.trans (congrArg some (by kernel_rfl))⟩
  f37 := ⟨Try.f85.name, by decide, Try.func85.trans (congrArg some (by kernel_rfl))⟩
  f38 := ⟨Try.f86.name, by decide, Try.func86.trans (congrArg some (by kernel_rfl))⟩
  f39 := ⟨Try.f87.name, by decide, Try.func87.trans (congrArg some (by kernel_rfl))⟩
  f41 := ⟨Try.f88.name, by decide, Try.func88.trans (congrArg some (by kernel_rfl))⟩
  t0 := Try.underlying0
  a0 := Try.isAgg0
  z0 := Try.sizeOf0
  v0 := Try.zeroValue0
  t3 := Try.underlying3
  a3 := Try.isAgg3
  z3 := Try.sizeOf3
  v3 := Try.zeroValue3
  t4 := Try.underlying4
  a4 := Try.isAgg4
  z4 := Try.sizeOf4
  v4 := Try.zeroValue4
  t5 := Try.underlying5
  a5 := Try.isAgg5
  z5 := Try.sizeOf5
  v5 := Try.zeroValue5
  t9 := Try.underlying9
  a9 := Try.isAgg9
  z9 := Try.sizeOf9
  v9 := Try.zeroValue9
  t26 := Try.underlying41
  a26 := Try.isAgg41
  z26 := Try.sizeOf41
  v26 := Try.zeroValue41
  t27 := Try.underlying41
  a27 := Try.isAgg41
  z27 := Try.sizeOf41
  v27 := Try.zeroValue41
  t29 := Try.underlying9
  a29 := Try.isAgg9
  z29 := Try.sizeOf9
  v29 := Try.zeroValue9
  t32 := Try.underlying110
  a32 := Try.isAgg110
  z32 := Try.sizeOf110
  v32 := Try.zeroValue110
  t35 := Try.underlying117
  a35 := Try.isAgg117
  z35 := Try.sizeOf117
  v35 := Try.zeroValue117
  t36 := Try.underlying118
  a36 := Try.isAgg118
  z36 := Try.sizeOf118
  v36 := Try.zeroValue118
  t41 := Try.underlying123
  a41 := Try.isAgg123
  z41 := Try.sizeOf123
  v41 := Try.zeroValue123
  t44 := Try.underlying75
  a44 := Try.isAgg75
  z44 := Try.sizeOf75
  v44 := Try.zeroValue75
  t46 := Try.underlying127
  a46 := Try.isAgg127
  z46 := Try.sizeOf127
  v46 := Try.zeroValue127
  t53 := Try.underlying128
  a53 := Try.isAgg128
  z53 := Try.sizeOf128
  v53 := Try.zeroValue128
  t57 := Try.underlying132
  a57 := Try.isAgg132
  z57 := Try.sizeOf132
  v57 := Try.zeroValue132
  t63 := Try.underlying134
  a63 := Try.isAgg134
  z63 := Try.sizeOf134
  v63 := Try.zeroValue134
  t64 := Try.underlying135
  a64 := Try.isAgg135
  z64 := Try.sizeOf135
  v64 := Try.zeroValue135 }


/-- slices.Sort's two contracts at this dump, at the fence that asks nothing. -/
theorem Try.sorts35 (m : Nat) : AnyZ.SortsIn Try.prog Try.sorted35_ren Fence.wide m :=
  ⟨fun blk off cap ss W hH hblk hsz => callsIn_wide.2 (AnyM.slices_Sort_string Try.sort51 blk off cap ss W hH hblk hsz),
   fun p cap W => callsIn_wide.2 (AnyM.slices_Sort_string_none Try.sort51 p cap W)⟩

/-- **maps.Keys[map[string]int,string,int], at whatever map, the nil one too:** a function value over ONE NEW BLOCK, which holds the map. -/
theorem Try.maps_Keys_36 (mb : Option Nat) (W : World) : CallsIn Fence.wide 5 Try.prog 36 #[.map mb] W fun e w' => e = .returned (.func (.func 52) #[] #[.pointer (some ⟨W.heap.size, 0, none⟩)]) ∧ w' = W.alloc (.cells #[.map mb] 72) :=
  AnyZ.keys_in Try.keys36 Fence.wide 5 trivial rfl mb W

set_option maxHeartbeats 1000000 in
/-- **slices.Sorted[string] AT WHAT maps.Keys[map[string]int,string,int] HANDED BACK FOR A MAP THAT IS NOT nil** ('w': the world AHEAD of maps.Keys' call): A NEW SLICE THAT HOLDS THE MAP's KEYS, SORTED; nil just where it has none; nothing that lay before has turned. -/
theorem Try.slices_Sorted_keys_35_36 {H : Type} (b nn : Nat) (D0 : DataW H) (R : Value → Option (DataW H × List MemPlace)) (w : World) (hown : w.ownsMap Try.prog 9 R b nn D0) (hmax : Maps.size D0 ≤ maxLen) (hbytes : Maps.size D0 * 16 ≤ 140737488355328) :
    CallsIn Fence.wide 5 Try.prog 35 #[.func (.func 52) #[] #[.pointer (some ⟨w.heap.size, 0, none⟩)]] (w.alloc (.cells #[.map (some b)] 72)) fun e w' => ∃ (v : Value) (ss : List (List UInt8)), e = .returned v ∧ ss.Perm (strKeys D0) ∧
      w'.ownsRow (w.alloc (.cells #[.map (some b)] 72)).heap.size 9 1 v ss.length ((ss.mergeSort (fun x y => decide (x ≤ y))).map encStr) ∧ (v = .slice none 0 0 ↔ ss = []) ∧ Below (w.alloc (.cells #[.map (some b)] 72)).heap.size (w.alloc (.cells #[.map (some b)] 72)) w' := by
  have hbl := hown.lt
  have hseq : SeqGives Fence.wide 2 Try.prog 52 #[.pointer (some ⟨w.heap.size, 0, none⟩)] encStr (fun ss => ss.Perm (strKeys D0)) (Maps.size D0) (w.alloc (.cells #[.map (some b)] 72)) :=
    AnyZ.keys_gives (ρ := Try.keys36_ren) { Try.keys36 with } Fence.wide _ trivial rfl (by omega) w.heap.size b nn D0 _ (by simp) (by simp) (by
      obtain ⟨es, clock, hb, Ft, hs, hD⟩ := hown
      exact ⟨es, clock, (Below.heap_alloc _ _ b hbl).trans hb, Ft, hs, hD⟩)
  exact AnyZ.sorted_in Try.sorted35 Fence.wide 5 trivial trivial trivial trivial rfl (by omega) (Try.sorts35 _) (enters_of Try.func51 (by kernel_rfl) rfl) 52 #[.pointer (some ⟨w.heap.size, 0, none⟩)] trivial (enters_of Try.func52 (by kernel_rfl) rfl) _ _ hmax hbytes _ hseq

set_option maxHeartbeats 1000000 in
/-- **.. AND FOR THE nil MAP: nil.** -/
theorem Try.slices_Sorted_keys_nil_35_36 (w : World) :
    CallsIn Fence.wide 5 Try.prog 35 #[.func (.func 52) #[] #[.pointer (some ⟨w.heap.size, 0, none⟩)]] (w.alloc (.cells #[.map none] 72)) fun e w' => ∃ (v : Value) (ss : List (List UInt8)), e = .returned v ∧ ss = [] ∧
      w'.ownsRow (w.alloc (.cells #[.map none] 72)).heap.size 9 1 v ss.length ((ss.mergeSort (fun x y => decide (x ≤ y))).map encStr) ∧ (v = .slice none 0 0 ↔ ss = []) ∧ Below (w.alloc (.cells #[.map none] 72)).heap.size (w.alloc (.cells #[.map none] 72)) w' := by
  have hseq : SeqGives Fence.wide 2 Try.prog 52 #[.pointer (some ⟨w.heap.size, 0, none⟩)] encStr (fun ss : List (List UInt8) => ss = []) 0 (w.alloc (.cells #[.map none] 72)) :=
    AnyZ.keys_gives_nil (ρ := Try.keys36_ren) { Try.keys36 with } Fence.wide _ trivial rfl w.heap.size _ (by simp) (by simp)
  exact AnyZ.sorted_in Try.sorted35 Fence.wide 5 trivial trivial trivial trivial rfl (by omega) (Try.sorts35 _) (enters_of Try.func51 (by kernel_rfl) rfl) 52 #[.pointer (some ⟨w.heap.size, 0, none⟩)] trivial (enters_of Try.func52 (by kernel_rfl) rfl) _ 0 (Nat.zero_le _) (by omega) _ hseq



end Go.Proofs

