/-
  SHA-256 of the package: the constants, the schedule, a block.
-/
import Derived.Test.YtdmladdpbdcpjaaDoorArkFns
import Derived.Laws.Tables
import Derived.Deep.WholeRow
import Derived.Great.BuildSlice
namespace Go.Proofs.YtdmladdpbdcpjaaDoor
open Go.RowKit

attribute [local go_sem] lt1 lt2 lt3 lt4 lt5 lt6

def zero64 : Array Value := (u32s (List.replicate 64 0)).toArray
theorem zeroRow (w : World) : (zeroValue 76).run Tryd.prog w = .ok (.agg zero64) w := by kernel_rfl
theorem infoRow : (Tryd.prog.info? 76).map (·.size) = some 64 := by kernel_rfl
theorem infoU32 : (Tryd.prog.info? 58).map (·.size) = some 1 := by kernel_rfl
theorem zero64_size : zero64.size = 64 := by simp [zero64, u32s]
theorem shaK_size : (u32s shaK).toArray.size = 64 := by simp [u32s, shaK]
theorem u32s_one (l : List Nat) : (u32s l).toArray.all (·.oneCell') = true := by
  rw [Array.all_eq_true_iff_forall_mem]
  intro v hv
  simp only [List.mem_toArray, u32s, List.mem_map] at hv
  obtain ⟨x, _, rfl⟩ := hv
  rfl
def shaKi : List Int := shaK.map Int.ofNat
theorem shaKi_eq : (shaKi.map (Value.int .u32)).toArray = (u32s shaK).toArray := by unfold shaKi u32s; rw [List.map_map]; rfl

theorem constants_any (w : World) : Calls Tryd.prog 58 #[] w fun e w' => e = .returned (.agg (u32s shaK).toArray) ∧ Below w.heap.size w w' := by
  have hz := zeroRow
  have hzs := zero64_size
  generalize zero64 = Z at *
  go_enter Tryd.func58, Tryd.ntmps58
  go_wp2_with (first
    | (refine wpList_buildFlatArr rfl 76 58 64 _ rfl .u32 shaKi Tryd.underlying76 infoU32 (by kernel_rfl) (by kernel_rfl) ?_; rw [shaKi_eq])
    | (refine wpList_store_row rfl 76 _ _ rfl w.heap.size (u32s shaK).toArray rfl rfl 76 Z (heap_alloc_new w _) (by rw [shaK_size]; exact infoRow) (by rw [hzs, shaK_size]) (u32s_one _) ?_; rw [World.setRow_alloc_new]))
  have hld := run_loadVar_new (P := Tryd.prog) w 76 (u32s shaK).toArray 64 58 Tryd.underlying76 (by rw [shaK_size]; exact infoRow)
  refine bodyPost_ret (v := .agg (u32s shaK).toArray) ?_ rfl ⟨rfl, (Below.refl _ _).alloc (Nat.le_refl _) _⟩
  simp [results, Tryd.results58, asAddr, hld, Act.put]
end Go.Proofs.YtdmladdpbdcpjaaDoor
