/-
  SHA-256 of the reference.
-/
import Derived.Test.YtfbdjfljgcfikaaDoorArkBlock
import Derived.Test.YtfbdjfljgcfikaaDoorArkOwn
import Derived.Deep.QuietTactic
import Derived.BigQuiet
import Derived.Outline
namespace Go.Proofs.YtfbdjfljgcfikaaDoor
open Go.RowKit

attribute [local go_sem] lt1 lt2 lt3 lt4 lt5 lt6

set_option maxHeartbeats 2000000 in
theorem constants_ref (w : World) : Calls Tryd.prog 64 #[] w fun e w' => e = .returned (.slice (some ⟨w.heap.size, 0, none⟩) 64 64) ∧ w' = w.alloc (.cells (u32s shaK).toArray 58) := by
  go_enter Tryd.func64, Tryd.ntmps64
  go_wp2_with (first | (refine wpList_buildFlatAt rfl 92 58 64 _ rfl .u32 shaKi w.heap.size rfl _ rfl Tryd.underlying92 infoU32 (by kernel_rfl) (by rfl) (by omega) (by omega) (by kernel_rfl) ?_; rw [shaKi_eq]))
  go_ret
  exact ⟨rfl, rfl⟩
/-- the constants, the state and the bytes in memory -/
structure ShR (w : World) (H : List Nat) (T : List UInt8) (v : Value) (wr : World) : Prop where
  below : Below w.heap.size w wr
  k : wr.heap[w.heap.size]? = some (.cells (u32s shaK).toArray 58 (0, 0))
  h : wr.heap[w.heap.size + 1]? = some (.cells (u32s H).toArray 58 (0, 0))
  m : wr.ownsRow (w.heap.size + 2) 5 1 v T.length (u8s T)
theorem ShR.size {w wr : World} {H : List Nat} {T : List UInt8} {v : Value} (h : ShR w H T v wr) : w.heap.size + 2 ≤ wr.heap.size := lt_of_heap h.h
theorem ShR.push {w wr wx : World} {H : List Nat} {T : List UInt8} {v v' : Value} {o : Obj} (x : UInt8) {n : Int} (hn : n = (x.toNat : Nat)) (h : ShR w H T v wr) (hown : wx.ownsRow (w.heap.size + 2) 5 1 v' (T.length + 1) (u8s T ++ [.int .u8 n])) (hg : (wr.alloc o).grownBy wx v.ownBlock) : ShR w H (T ++ [x]) v' wx := by
  subst hn
  have hs := h.size
  have hne : ∀ b, v.ownBlock = some b → w.heap.size + 2 ≤ b := fun b hb => (own_blk h.m b hb).1
  have key : ∀ k, k < w.heap.size + 2 → wx.heap[k]? = wr.heap[k]? := fun k hk => (hg.block k (by simp; omega) (fun e => by have := hne k e.symm; omega)).trans (Below.heap_alloc _ _ _ (by omega))
  refine ⟨(h.below.alloc h.below.size o).grown hg (by have := h.below.size; simp; omega) (fun k hk => by have := hne k hk; omega), (key _ (by omega)).trans h.k, (key _ (by omega)).trans h.h, ?_⟩
  rw [show (T ++ [x]).length = T.length + 1 by simp, show u8s (T ++ [x]) = u8s T ++ [.int .u8 ((x.toNat : Nat) : Int)] by simp [u8s]]
  exact hown
def ShPad (w : World) (b : List UInt8) (v : Value) (wr : World) : Prop := ∃ k, k ≤ zerosFor b.length ∧ ShR w shaH (b ++ [128] ++ List.replicate k 0) v wr
def ShTail (w : World) (T : List UInt8) (n : Nat) (iv v : Value) (wr : World) : Prop := ∃ k : Nat, k ≤ 8 ∧ iv = .int .i64 (7 - (k : Int)) ∧ ShR w shaH (T ++ (be64 (8 * n)).take k) v wr
theorem be_int' (n k : Nat) : ((n : Int) * 8) / 2 ^ (56 - 8 * k) % 256 = (((UInt8.ofNat (8 * n / 2 ^ (56 - 8 * k))).toNat : Nat) : Int) := by
  rw [Int.mul_comm]
  rw [UInt8.toNat_ofNat', Int.natCast_emod, Int.natCast_ediv, Int.natCast_mul, Int.natCast_pow]
  rfl
theorem be64_take' (m : Nat) {k : Nat} (h : k < 8) : (be64 m).take (k + 1) = (be64 m).take k ++ [UInt8.ofNat (m / 2 ^ (56 - 8 * k))] := by
  rw [List.take_succ_eq_append_getElem (by rw [be64_length]; exact h)]
  simp [be64]
theorem tail_step {w wr wx : World} {T U : List UInt8} {n k : Nat} {v v' : Value} {o : Obj} (hU : U = T ++ (be64 (8 * n)).take k) (hk : k < 8) (h : ShR w shaH U v wr) (hown : wx.ownsRow (w.heap.size + 2) 5 1 v' (U.length + 1) (u8s U ++ [.int .u8 ((n : Int) * 8 / 2 ^ (56 - 8 * k) % 256)])) (hg : (wr.alloc o).grownBy wx v.ownBlock) : ShTail w T n (.int .i64 (7 - (k : Int) - 1)) v' wx := by
  have := h.push _ (be_int' n k) hown hg
  refine ⟨k + 1, by omega, by congr 1; omega, ?_⟩
  rw [be64_take' _ hk, ← List.append_assoc, ← hU]
  exact this
theorem ShR.set {w wr : World} {H : List Nat} {P : List UInt8} {v : Value} {wb : Nat} {cs : Array Value} (h : ShR w H P v wr) (hb : w.heap.size + 2 ≤ wb) (hw : wr.heap[wb]? = some (.cells cs 58 (0, 0))) (i : Nat) (u : Value) : ShR w H P v (wr.setCell ⟨wb, i, none⟩ u) := by
  have hf : Fr [wb] wr (wr.setCell ⟨wb, i, none⟩ u) := Fr.setCell _ _ _ _ (by simp)
  have hs := h.size
  refine ⟨h.below.trans (hf.below h.below.size (by simp; omega)), (hf.block _ (by omega) (by simp; omega)).trans h.k, (hf.block _ (by omega) (by simp; omega)).trans h.h, own_keep h.m fun g c hg => (hf.block g (lt_of_heap hg) ?_).trans hg⟩
  simp only [List.mem_singleton]
  rintro rfl
  rw [hg] at hw
  simp at hw
theorem ShR.drewN {w wr : World} {H : List Nat} {P : List UInt8} {v : Value} (h : ShR w H P v wr) (n : Nat) : ShR w H P v (wr.drewN n) := ⟨⟨h.below.os, h.below.tape, h.below.output, h.below.size, h.below.block⟩, h.k, h.h, h.m⟩
/-- k numbers of the block's schedule stand in the row -/
def W4 (w : World) (wb : Nat) (P : List UInt8) (v : Value) (H : List Nat) (blk : List UInt8) (k : Nat) (wr : World) : Prop :=
  ShR w H P v wr ∧ w.heap.size + 2 ≤ wb ∧ ∃ cs, wr.heap[wb]? = some (.cells cs 58 (0, 0)) ∧ cs.size = 64 ∧ ∀ j, j < k → cs[j]? = some (.int .u32 ((sched blk k).getD j 0 : Nat))
theorem W4.step {w wr : World} {wb : Nat} {P blk : List UInt8} {v : Value} {H : List Nat} {k : Nat} (h : W4 w wb P v H blk k wr) (hk : k < 64) : W4 w wb P v H blk (k + 1) (wr.setCell ⟨wb, k, none⟩ (.int .u32 (nextW blk (sched blk k) : Nat))) := by
  obtain ⟨hR, hb, cs, hcs, hs, hrow⟩ := h
  refine ⟨hR.set hb hcs _ _, hb, cs.setIfInBounds k (.int .u32 (nextW blk (sched blk k) : Nat)), heap_setCell_at hcs k _, by simpa using hs, fun j hj => ?_⟩
  by_cases e : j = k
  · subst e
    rw [Array.getElem?_setIfInBounds_self_of_lt (by omega), sched_getD blk (by omega)]
  · rw [Array.getElem?_setIfInBounds_ne (by omega), hrow j (by omega), sched_getD blk (by omega), sched_getD blk (by omega)]
theorem W4.drewN {w wr : World} {wb : Nat} {P blk : List UInt8} {v : Value} {H : List Nat} {k : Nat} (h : W4 w wb P v H blk k wr) (n : Nat) : W4 w wb P v H blk k (wr.drewN n) := ⟨h.1.drewN n, h.2.1, h.2.2⟩
def Sh3 (w : World) (wb : Nat) (P : List UInt8) (v iv : Value) (wr : World) : Prop := ∃ j, 64 * j ≤ P.length ∧ iv = .int .i64 ((64 * j : Nat) : Int) ∧ W4 w wb P v (blocks shaH P j) [] 0 wr
def Sh4 (w : World) (wb : Nat) (P : List UInt8) (v : Value) (H : List Nat) (blk : List UInt8) (lo hi : Nat) (iv : Value) (wr : World) : Prop := ∃ k, lo ≤ k ∧ k ≤ hi ∧ iv = .int .i64 (k : Nat) ∧ W4 w wb P v H blk k wr
theorem shaH8 : (u32s shaH).toArray = #[.int .u32 1779033703, .int .u32 3144134277, .int .u32 1013904242, .int .u32 2773480762, .int .u32 1359893119, .int .u32 2600822924, .int .u32 528734635, .int .u32 1541459225] := rfl
theorem make64 : ∀ w : World, (Instr.makeSlice 92 (.int .i64 64) (.int .i64 64)).run Tryd.prog w = .ok (.slice (some ⟨w.heap.size, 0, none⟩) 64 64) (w.alloc (.cells zero64 58)) := fun _ => by kernel_rfl
end Go.Proofs.YtfbdjfljgcfikaaDoor
