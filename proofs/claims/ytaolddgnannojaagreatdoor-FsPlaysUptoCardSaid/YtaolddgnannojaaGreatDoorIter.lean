/-
  maps.Keys and slices.Sorted at this program's map of requests: what they answer (the library's contracts, laid by a program of the guide; the layings in plain words).
-/
import Derived.Shelf.SlIter.Nil
import Derived.Shelf.SortM.Plain
import Derived.Shelf.SortM.SortNone
import Derived.Shelf.SlMaps.Clone
import Derived.Ground.SlmcProg
import Derived.Ground.GgzProg
import Derived.Ground.SlgmProg
import Derived.Test.YtaolddgnannojaaGreatDoorProg
namespace Go.Proofs
open Go.RowKit Go.Maps Go.Sort Go.Shelf

def Tryz.clone19_ren : Go.Shelf.Ren := ⟨fun | 5 => 19 | 7 => 65 | n => n, fun | 23 => 46 | 25 => 9 | 3 => 3 | 4 => 4 | 20 => 20 | n => n, fun | n => n⟩
theorem Tryz.clone19 : Go.Proofs.SlLaysW.n5 Tryz.prog Tryz.clone19_ren := {
  mixed := by kernel_rfl
  f5 := ⟨Tryz.f19.name, by decide, Tryz.func19.trans (congrArg some (by kernel_rfl))⟩
  f7 := Tryz.func65.trans (congrArg some (by kernel_rfl))
  t4 := Tryz.underlying4
  a4 := Tryz.isAgg4
  z4 := Tryz.sizeOf4
  v4 := Tryz.zeroValue4
  t20 := Tryz.underlying20
  a20 := Tryz.isAgg20
  z20 := Tryz.sizeOf20
  v20 := Tryz.zeroValue20
  t23 := Tryz.underlying46
  a23 := Tryz.isAgg46
  z23 := Tryz.sizeOf46
  v23 := Tryz.zeroValue46 }

def Tryz.keys64_ren : Go.Shelf.Ren := ⟨fun | 7 => 64 | 10 => 86 | n => n, fun | 23 => 46 | 26 => 9 | 3 => 3 | 28 => 87 | 0 => 0 | 27 => 86 | 33 => 64 | 4 => 4 | n => n, fun | n => n⟩
theorem Tryz.keys64 : Go.Proofs.SlLaysZ.n7 Tryz.prog Tryz.keys64_ren := {
  mixed := by kernel_rfl
  f7 := ⟨Tryz.f64.name, by decide, Tryz.func64.trans (congrArg some (by kernel_rfl))⟩
  f10 := ⟨Tryz.f86.name, by decide, Tryz.func86.trans (congrArg some (by kernel_rfl))⟩
  t0 := Tryz.underlying0
  a0 := Tryz.isAgg0
  z0 := Tryz.sizeOf0
  v0 := Tryz.zeroValue0
  t4 := Tryz.underlying4
  a4 := Tryz.isAgg4
  z4 := Tryz.sizeOf4
  v4 := Tryz.zeroValue4
  t23 := Tryz.underlying46
  a23 := Tryz.isAgg46
  z23 := Tryz.sizeOf46
  v23 := Tryz.zeroValue46
  t26 := Tryz.underlying9
  a26 := Tryz.isAgg9
  z26 := Tryz.sizeOf9
  v26 := Tryz.zeroValue9
  t27 := Tryz.underlying86
  a27 := Tryz.isAgg86
  z27 := Tryz.sizeOf86
  v27 := Tryz.zeroValue86
  t28 := Tryz.underlying87
  a28 := Tryz.isAgg87
  z28 := Tryz.sizeOf87
  v28 := Tryz.zeroValue87
  t33 := Tryz.underlying64
  a33 := Tryz.isAgg64
  z33 := Tryz.sizeOf64
  v33 := Tryz.zeroValue64 }

def Tryz.sorted63_ren : Go.Shelf.Ren := ⟨fun | 6 => 63 | 8 => 85 | 9 => 81 | 11 => 94 | 13 => 93 | 12 => 92 | 23 => 110 | 24 => 111 | 14 => 101 | 15 => 102 | 16 => 103 | 17 => 104 | 18 => 105 | 19 => 106 | 20 => 107 | 21 => 108 | 22 => 109 | 25 => 116 | 26 => 117 | 27 => 118 | 28 => 119 | 29 => 120 | 30 => 121 | 31 => 127 | n => n, fun | 26 => 9 | 28 => 87 | 24 => 81 | 0 => 0 | 3 => 3 | 37 => 111 | 48 => 114 | 50 => 129 | 4 => 4 | 40 => 121 | 39 => 120 | 45 => 125 | 5 => 5 | 9 => 9 | 51 => 132 | 55 => 136 | 57 => 139 | 58 => 140 | 33 => 64 | n => n, fun | n => n⟩
theorem Tryz.sorted63 : Go.Proofs.SlLaysZ.n6 Tryz.prog Tryz.sorted63_ren := {
  mixed := by kernel_rfl
  f6 := ⟨Tryz.f63.name, by decide, Tryz.func63.trans (congrArg some (by kernel_rfl))⟩
  f8 := ⟨Tryz.f85.name, by decide, Tryz.func85.trans (congrArg some (by kernel_rfl))⟩
  f11 := ⟨Tryz.f94.name, by decide, Tryz.func94.trans (congrArg some (by kernel_rfl))⟩
  t0 := Tryz.underlying0
  a0 := Tryz.isAgg0
  z0 := Tryz.sizeOf0
  v0 := Tryz.zeroValue0
  t24 := Tryz.underlying81
  a24 := Tryz.isAgg81
  z24 := Tryz.sizeOf81
  v24 := Tryz.zeroValue81
  t26 := Tryz.underlying9
  a26 := Tryz.isAgg9
  z26 := Tryz.sizeOf9
  v26 := Tryz.zeroValue9
  t28 := Tryz.underlying87
  a28 := Tryz.isAgg87
  z28 := Tryz.sizeOf87
  v28 := Tryz.zeroValue87
  i26 := by kernel_rfl }

def Tryz.sort81_ren : Go.Shelf.Ren := ⟨fun | 6 => 81 | 8 => 93 | 9 => 92 | 19 => 110 | 20 => 111 | 21 => 101 | 22 => 102 | 23 => 103 | 24 => 104 | 25 => 105 | 26 => 106 | 27 => 107 | 28 => 108 | 29 => 109 | 36 => 116 | 31 => 117 | 32 => 118 | 37 => 119 | 38 => 120 | 39 => 121 | 41 => 127 | n => n, fun | 27 => 81 | 29 => 9 | 3 => 3 | 32 => 111 | 26 => 81 | 0 => 0 | 44 => 114 | 46 => 129 | 4 => 4 | 36 => 121 | 35 => 120 | 41 => 125 | 5 => 5 | 9 => 9 | 53 => 132 | 57 => 136 | 63 => 139 | 64 => 140 | n => n, fun | n => n⟩
theorem Tryz.sort81 : Go.Proofs.SlLaysM.n6 Tryz.prog Tryz.sort81_ren := {
  mixed := by kernel_rfl
  f6 := ⟨Tryz.f81.name, by decide, Tryz.func81.trans (congrArg some (by kernel_rfl))⟩
  f8 := Tryz.func93.trans (congrArg some (by kernel_rfl))
  f9 := ⟨Tryz.f92.name, by decide, Tryz.func92.trans (congrArg some (by kernel_rfl))⟩
  f19 := Tryz.func110.trans (congrArg some (by kernel_rfl))
  f20 := Tryz.func111.trans (congrArg some (by kernel_rfl))
  f21 := ⟨Tryz.f101.name, by decide, Tryz.func101.trans (congrArg some (by kernel_rfl))⟩
  f22 := ⟨Tryz.f102.name, by decide, Tryz.func102.trans (congrArg some (by kernel_rfl))⟩
  f23 := ⟨Tryz.f103.name, by decide, Tryz.func103.trans (congrArg some (by kernel_rfl))⟩
  f24 := ⟨Tryz.f104.name, by decide, Tryz.func104.trans (congrArg some (by kernel_rfl))⟩
  f25 := ⟨Tryz.f105.name, by decide, Tryz.func105.trans (congrArg some (by kernel_rfl))⟩
  f26 := ⟨Tryz.f106.name, by decide, Tryz.func106.trans (congrArg some (by kernel_rfl))⟩
  f27 := ⟨Tryz.f107.name, by decide, Tryz.func107.trans (congrArg some (by kernel_rfl))⟩
  f28 := ⟨Tryz.f108.name, by decide, Tryz.func108.trans (congrArg some (by kernel_rfl))⟩
  f29 := ⟨Tryz.f109.name, by decide, Tryz.func109.trans (congrArg some (by kernel_rfl))⟩
  f31 := Tryz.func117.trans (congrArg some (by kernel_rfl))
  f32 := Tryz.func118.trans (congrArg some (by kernel_rfl))
  f36 := ⟨Tryz.f116.name, by decide, Tryz.func116.trans (congrArg some (by kernel_rfl))⟩
  f37 := ⟨Tryz.f119.name, by decide, Tryz.func119.trans (congrArg some (by kernel_rfl))⟩
  f38 := ⟨Tryz.f120.name, by decide, Tryz.func120.trans (congrArg some (by kernel_rfl))⟩
  f39 := ⟨Tryz.f121.name, by decide, Tryz.func121.trans (congrArg some (by kernel_rfl))⟩
  f41 := ⟨Tryz.f127.name, by decide, Tryz.func127.trans (congrArg some (by kernel_rfl))⟩
  t0 := Tryz.underlying0
  a0 := Tryz.isAgg0
  z0 := Tryz.sizeOf0
  v0 := Tryz.zeroValue0
  t3 := Tryz.underlying3
  a3 := Tryz.isAgg3
  z3 := Tryz.sizeOf3
  v3 := Tryz.zeroValue3
  t4 := Tryz.underlying4
  a4 := Tryz.isAgg4
  z4 := Tryz.sizeOf4
  v4 := Tryz.zeroValue4
  t5 := Tryz.underlying5
  a5 := Tryz.isAgg5
  z5 := Tryz.sizeOf5
  v5 := Tryz.zeroValue5
  t9 := Tryz.underlying9
  a9 := Tryz.isAgg9
  z9 := Tryz.sizeOf9
  v9 := Tryz.zeroValue9
  t26 := Tryz.underlying81
  a26 := Tryz.isAgg81
  z26 := Tryz.sizeOf81
  v26 := Tryz.zeroValue81
  t27 := Tryz.underlying81
  a27 := Tryz.isAgg81
  z27 := Tryz.sizeOf81
  v27 := Tryz.zeroValue81
  t29 := Tryz.underlying9
  a29 := Tryz.isAgg9
  z29 := Tryz.sizeOf9
  v29 := Tryz.zeroValue9
  t32 := Tryz.underlying111
  a32 := Tryz.isAgg111
  z32 := Tryz.sizeOf111
  v32 := Tryz.zeroValue111
  t35 := Tryz.underlying120
  a35 := Tryz.isAgg120
  z35 := Tryz.sizeOf120
  v35 := Tryz.zeroValue120
  t36 := Tryz.underlying121
  a36 := Tryz.isAgg121
  z36 := Tryz.sizeOf121
  v36 := Tryz.zeroValue121
  t41 := Tryz.underlying125
  a41 := Tryz.isAgg125
  z41 := Tryz.sizeOf125
  v41 := Tryz.zeroValue125
  t44 := Tryz.underlying114
  a44 := Tryz.isAgg114
  z44 := Tryz.sizeOf114
  v44 := Tryz.zeroValue114
  t46 := Tryz.underlying129
  a46 := Tryz.isAgg129
  z46 := Tryz.sizeOf129
  v46 := Tryz.zeroValue129
  t53 := Tryz.underlying132
  a53 := Tryz.isAgg132
  z53 := Tryz.sizeOf132
  v53 := Tryz.zeroValue132
  t57 := Tryz.underlying136
  a57 := Tryz.isAgg136
  z57 := Tryz.sizeOf136
  v57 := Tryz.zeroValue136
  t63 := Tryz.underlying139
  a63 := Tryz.isAgg139
  z63 := Tryz.sizeOf139
  v63 := Tryz.zeroValue139
  t64 := Tryz.underlying140
  a64 := Tryz.isAgg140
  z64 := Tryz.sizeOf140
  v64 := Tryz.zeroValue140 }


/-- slices.Sort's two contracts at this dump, at the fence that asks nothing. -/
theorem Tryz.sorts63 (m : Nat) : AnyZ.SortsIn Tryz.prog Tryz.sorted63_ren Fence.wide m :=
  ⟨fun blk off cap ss W hH hblk hsz => callsIn_wide.2 (AnyM.slices_Sort_string Tryz.sort81 blk off cap ss W hH hblk hsz),
   fun p cap W => callsIn_wide.2 (AnyM.slices_Sort_string_none Tryz.sort81 p cap W)⟩

/-- **maps.Keys[map[string]int,string,int], at whatever map, the nil one too:** a function value over ONE NEW BLOCK, which holds the map. -/
theorem Tryz.maps_Keys_64 (mb : Option Nat) (W : World) : CallsIn Fence.wide 5 Tryz.prog 64 #[.map mb] W fun e w' => e = .returned (.func (.func 86) #[] #[.pointer (some ⟨W.heap.size, 0, none⟩)]) ∧ w' = W.alloc (.cells #[.map mb] 46) :=
  AnyZ.keys_in Tryz.keys64 Fence.wide 5 trivial rfl mb W

set_option maxHeartbeats 1000000 in
/-- **slices.Sorted[string] AT WHAT maps.Keys[map[string]int,string,int] HANDED BACK FOR A MAP THAT IS NOT nil** ('w': the world AHEAD of maps.Keys' call): A NEW SLICE THAT HOLDS THE MAP's KEYS, SORTED; nil just where it has none; nothing that lay before has turned. -/
theorem Tryz.slices_Sorted_keys_63_64 {H : Type} (b nn : Nat) (D0 : DataW H) (R : Value → Option (DataW H × List MemPlace)) (w : World) (hown : w.ownsMap Tryz.prog 9 R b nn D0) (hmax : Maps.size D0 ≤ maxLen) (hbytes : Maps.size D0 * 16 ≤ 140737488355328) :
    CallsIn Fence.wide 5 Tryz.prog 63 #[.func (.func 86) #[] #[.pointer (some ⟨w.heap.size, 0, none⟩)]] (w.alloc (.cells #[.map (some b)] 46)) fun e w' => ∃ (v : Value) (ss : List (List UInt8)), e = .returned v ∧ ss.Perm (strKeys D0) ∧
      w'.ownsRow (w.alloc (.cells #[.map (some b)] 46)).heap.size 9 1 v ss.length ((ss.mergeSort (fun x y => decide (x ≤ y))).map encStr) ∧ (v = .slice none 0 0 ↔ ss = []) ∧ Below (w.alloc (.cells #[.map (some b)] 46)).heap.size (w.alloc (.cells #[.map (some b)] 46)) w' := by
  have hbl := hown.lt
  have hseq : SeqGives Fence.wide 2 Tryz.prog 86 #[.pointer (some ⟨w.heap.size, 0, none⟩)] encStr (fun ss => ss.Perm (strKeys D0)) (Maps.size D0) (w.alloc (.cells #[.map (some b)] 46)) :=
    AnyZ.keys_gives (ρ := Tryz.keys64_ren) { Tryz.keys64 with } Fence.wide _ trivial rfl (by omega) w.heap.size b nn D0 _ (by simp) (by simp) (by
      obtain ⟨es, clock, hb, Ft, hs, hD⟩ := hown
      exact ⟨es, clock, (Below.heap_alloc _ _ b hbl).trans hb, Ft, hs, hD⟩)
  exact AnyZ.sorted_in Tryz.sorted63 Fence.wide 5 trivial trivial trivial trivial rfl (by omega) (Tryz.sorts63 _) (enters_of Tryz.func81 (by kernel_rfl) rfl) 86 #[.pointer (some ⟨w.heap.size, 0, none⟩)] trivial (enters_of Tryz.func86 (by kernel_rfl) rfl) _ _ hmax hbytes _ hseq

set_option maxHeartbeats 1000000 in
/-- **.. AND FOR THE nil MAP: nil.** -/
theorem Tryz.slices_Sorted_keys_nil_63_64 (w : World) :
    CallsIn Fence.wide 5 Tryz.prog 63 #[.func (.func 86) #[] #[.pointer (some ⟨w.heap.size, 0, none⟩)]] (w.alloc (.cells #[.map none] 46)) fun e w' => ∃ (v : Value) (ss : List (List UInt8)), e = .returned v ∧ ss = [] ∧
      w'.ownsRow (w.alloc (.cells #[.map none] 46)).heap.size 9 1 v ss.length ((ss.mergeSort (fun x y => decide (x ≤ y))).map encStr) ∧ (v = .slice none 0 0 ↔ ss = []) ∧ Below (w.alloc (.cells #[.map none] 46)).heap.size (w.alloc (.cells #[.map none] 46)) w' := by
  have hseq : SeqGives Fence.wide 2 Tryz.prog 86 #[.pointer (some ⟨w.heap.size, 0, none⟩)] encStr (fun ss : List (List UInt8) => ss = []) 0 (w.alloc (.cells #[.map none] 46)) :=
    AnyZ.keys_gives_nil (ρ := Tryz.keys64_ren) { Tryz.keys64 with } Fence.wide _ trivial rfl w.heap.size _ (by simp) (by simp)
  exact AnyZ.sorted_in Tryz.sorted63 Fence.wide 5 trivial trivial trivial trivial rfl (by omega) (Tryz.sorts63 _) (enters_of Tryz.func81 (by kernel_rfl) rfl) 86 #[.pointer (some ⟨w.heap.size, 0, none⟩)] trivial (enters_of Tryz.func86 (by kernel_rfl) rfl) _ 0 (Nat.zero_le _) (by omega) _ hseq



end Go.Proofs

