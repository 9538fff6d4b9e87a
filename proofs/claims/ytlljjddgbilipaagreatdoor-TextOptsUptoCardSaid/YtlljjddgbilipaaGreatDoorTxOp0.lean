/-
  story.Opts: its cells; text.numbers: pointers to its five numbers.
-/
import Derived.Test.YtlljjddgbilipaaGreatDoorBase
import Derived.Test.YtlljjddgbilipaaGreatDoorTxAbs
namespace Go.Proofs.YtlljjddgbilipaaGreatDoor
open Go.RowKit Go.Maps

set_option linter.unusedSimpArgs false

attribute [local go_sem] lt1 lt2 lt3 lt4 lt5 lt6

def opV (q1 : Int) (sv : Value) (q2 q3 q4 q5 : Int) (tv : Value) (bp : ByteArray) (off : Bool) (kn ks nm : ByteArray) (cv : Value) : List Value :=
  [.int .i64 q1, sv, .int .i64 q2, .int .i64 q3, .int .i64 q4, .int .i64 q5, tv, .string bp, .bool off, .string kn, .string ks, .string nm, cv]
theorem sizeOpt : (Tryz.prog.info? 32).map (·.size) = some 13 := by kernel_rfl
theorem infoOpt : (Tryz.prog.info? 32).map (fun i => (i.zero, i.size)) = some (some (.agg (opV 0 (.slice none 0 0) 0 0 0 0 (.slice none 0 0) ⟨#[]⟩ false ⟨#[]⟩ ⟨#[]⟩ ⟨#[]⟩ (.slice none 0 0)).toArray), 13) := by kernel_rfl
/-- where the five numbers lie in a row of options -/
def numPtrs (b : Nat) : List Value := [.pointer (some ⟨b, 0, none⟩), .pointer (some ⟨b, 2, none⟩), .pointer (some ⟨b, 3, none⟩), .pointer (some ⟨b, 4, none⟩), .pointer (some ⟨b, 5, none⟩)]
set_option maxRecDepth 100000 in
set_option maxHeartbeats 8000000 in
theorem numbers_any (w : World) (b : Nat) : Calls Tryz.prog 18 #[.pointer (some ⟨b, 0, none⟩)] w fun e w' => e = .returned (.slice (some ⟨w.heap.size, 0, none⟩) 5 5) ∧ w'.heap[w.heap.size]? = some (.cells (numPtrs b).toArray 67 (0, 0)) ∧ Below w.heap.size w w' := by
  go_enter Tryz.func18, Tryz.ntmps18
  go_wp2_with fail
  with_reducible refine g_mixx [(0, 1), (1, 1), (2, 1), (3, 1), (4, 1), (5, 1), (6, 1), (7, 1), (8, 1), (9, 1), (10, 1), (11, 1), (12, 1), (13, 1), (14, 1), (15, 1), (16, 1), (17, 1), (18, 2), (19, 1)] (fun _ => True) 0 _ rfl (by kernel_rfl) (by kernel_rfl) ?_ ?_
  · trivial
  intro OPS HD
  simp only [mixX, nthO, consX]
  iterate 18 ((with_reducible refine x_any (v := ?_) ?_ ?_); rotate_left; (rintro _; go_simp; first | done | rfl | (constructor <;> rfl)))
  with_reducible refine x_one ?_
  iterate 1 (with_reducible refine l_val (v := ?_) (w' := ?_) ?_ ?_; rotate_left 2; (go_simp; first | done | rfl | (constructor <;> rfl)))
  refine x_keep trivial ?_
  iterate 1 ((with_reducible refine x_any (v := ?_) ?_ ?_); rotate_left; (rintro _; go_simp; first | done | rfl | (constructor <;> rfl)))
  with_reducible refine x_end ?_
  simp only [Act.put, List.setIfInBounds_toArray, List.set_cons_zero, List.set_cons_succ]
  go_wp2_with fail
  go_ret
  exact ⟨rfl, heap_alloc_new _ _, (show Below w.heap.size w w.drew from ⟨rfl, rfl, rfl, Nat.le_refl _, fun _ _ => rfl⟩).alloc (Nat.le_refl _) _⟩
end Go.Proofs.YtlljjddgbilipaaGreatDoor
