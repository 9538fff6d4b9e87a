/-
  SHA-256 of the reference.
  SHA-256 of the reference: the loops over a block, in a frame that is a variable. (Printed by wip/abexp.py.)
  SHA-256 of the reference: the loop that draws the schedule out. (Printed by wip/abexp.py.)
  SHA-256 of the reference: the loop that adds a block's numbers to the state, and the one that lays the state's bytes. (Printed by wip/abexp.py.)
  SHA-256 of the reference: the sixty-four rounds. (Printed by wip/abexp.py of what wip/ark/gen3.py prints.)
  SHA-256 of the reference: the loop over the blocks. (Printed by wip/abexp.py.)
  SHA-256 of the reference.
-/
import Derived.Test.YtdmladdpbdcpjaaDoorArkBlock
import Derived.Test.YtdmladdpbdcpjaaDoorArkOwn
import Derived.Deep.QuietTactic
import Derived.BigQuiet
import Derived.Outline
import Derived.Test.YtdmladdpbdcpjaaDoorArkAbs
import Derived.Test.YtdmladdpbdcpjaaDoorArkFns
import Derived.Test.YtdmladdpbdcpjaaDoorArkBlk0
import Derived.Test.YtdmladdpbdcpjaaDoorArkSha
import Derived.Deep.CutBlock
namespace Go.Proofs.YtdmladdpbdcpjaaDoor
open Go.RowKit

attribute [local go_sem] lt1 lt2 lt3 lt4 lt5 lt6

set_option maxHeartbeats 2000000 in
theorem constants_ref (w : World) : Calls Tryd.prog 65 #[] w fun e w' => e = .returned (.slice (some ⟨w.heap.size, 0, none⟩) 64 64) ∧ w' = w.alloc (.cells (u32s shaK).toArray 58) := by
  go_enter Tryd.func65, Tryd.ntmps65
  go_wp2_with (first | (refine wpList_buildFlatAt rfl 93 58 64 _ rfl .u32 shaKi w.heap.size rfl _ rfl Tryd.underlying93 infoU32 (by kernel_rfl) (by rfl) (by omega) (by omega) (by kernel_rfl) ?_; rw [shaKi_eq]))
  go_ret
  exact ⟨rfl, rfl⟩
/-- the constants, the state and the bytes in memory -/
structure ShR (w : World) (H : List Nat) (T : List UInt8) (v : Value) (wr : World) : Prop where
  below : Below w.heap.size w wr
  k : wr.heap[w.heap.size]? = some (.cells (u32s shaK).toArray 58 (0, 0))
  h : wr.heap[w.heap.size + 1]? = some (.cells (u32s H).toArray 58 (0, 0))
  m : wr.ownsRow (w.heap.size + 2) 5 1 v T.length (u8s T)
theorem ShR.size {w wr : World} {H : List Nat} {T : List UInt8} {v : Value} (h : ShR w H T v wr) : w.heap.size + 2 ≤ wr.heap.size := lt_of_heap h.h
theorem ShR.push {w wr wx : World} {H : List Nat} {T : List UInt8} {v v' : Value} {o : Obj} (x : UInt8) {n : Int} (hn : n = (x.toNat : Nat)) (h : ShR w H T v wr) (hown : wx.ownsRow (w.heap.size + 2) 5 1 v' (T.length + 1) (u8s T ++ [.int .u8 n])) (hg : (wr.alloc o).grownBy wx v.ownBlock) : ShR w H (T ++ [x]) v' wx := by
  subst hn
  have hs := h.size
  have hne : ∀ b, v.ownBlock = some b → w.heap.size + 2 ≤ b := fun b hb => (own_blk h.m b hb).1
  have key : ∀ k, k < w.heap.size + 2 → wx.heap[k]? = wr.heap[k]? := fun k hk => (hg.block k (by simp; omega) (fun e => by have := hne k e.symm; omega)).trans (Below.heap_alloc _ _ _ (by omega))
  refine ⟨(h.below.alloc h.below.size o).grown hg (by have := h.below.size; simp; omega) (fun k hk => by have := hne k hk; omega), (key _ (by omega)).trans h.k, (key _ (by omega)).trans h.h, ?_⟩
  rw [show (T ++ [x]).length = T.length + 1 by simp, show u8s (T ++ [x]) = u8s T ++ [.int .u8 ((x.toNat : Nat) : Int)] by simp [u8s]]
  exact hown
def ShPad (w : World) (b : List UInt8) (v : Value) (wr : World) : Prop := ∃ k, k ≤ zerosFor b.length ∧ ShR w shaH (b ++ [128] ++ List.replicate k 0) v wr
def ShTail (w : World) (T : List UInt8) (n : Nat) (iv v : Value) (wr : World) : Prop := ∃ k : Nat, k ≤ 8 ∧ iv = .int .i64 (7 - (k : Int)) ∧ ShR w shaH (T ++ (be64 (8 * n)).take k) v wr
theorem be_int' (n k : Nat) : ((n : Int) * 8) / 2 ^ (56 - 8 * k) % 256 = (((UInt8.ofNat (8 * n / 2 ^ (56 - 8 * k))).toNat : Nat) : Int) := by
  rw [Int.mul_comm]
  rw [UInt8.toNat_ofNat', Int.natCast_emod, Int.natCast_ediv, Int.natCast_mul, Int.natCast_pow]
  rfl
theorem be64_take' (m : Nat) {k : Nat} (h : k < 8) : (be64 m).take (k + 1) = (be64 m).take k ++ [UInt8.ofNat (m / 2 ^ (56 - 8 * k))] := by
  rw [List.take_succ_eq_append_getElem (by rw [be64_length]; exact h)]
  simp [be64]
theorem tail_step {w wr wx : World} {T U : List UInt8} {n k : Nat} {v v' : Value} {o : Obj} (hU : U = T ++ (be64 (8 * n)).take k) (hk : k < 8) (h : ShR w shaH U v wr) (hown : wx.ownsRow (w.heap.size + 2) 5 1 v' (U.length + 1) (u8s U ++ [.int .u8 ((n : Int) * 8 / 2 ^ (56 - 8 * k) % 256)])) (hg : (wr.alloc o).grownBy wx v.ownBlock) : ShTail w T n (.int .i64 (7 - (k : Int) - 1)) v' wx := by
  have := h.push _ (be_int' n k) hown hg
  refine ⟨k + 1, by omega, by congr 1; omega, ?_⟩
  rw [be64_take' _ hk, ← List.append_assoc, ← hU]
  exact this
theorem ShR.set {w wr : World} {H : List Nat} {P : List UInt8} {v : Value} {wb : Nat} {cs : Array Value} (h : ShR w H P v wr) (hb : w.heap.size + 2 ≤ wb) (hw : wr.heap[wb]? = some (.cells cs 58 (0, 0))) (i : Nat) (u : Value) : ShR w H P v (wr.setCell ⟨wb, i, none⟩ u) := by
  have hf : Fr [wb] wr (wr.setCell ⟨wb, i, none⟩ u) := Fr.setCell _ _ _ _ (by simp)
  have hs := h.size
  refine ⟨h.below.trans (hf.below h.below.size (by simp; omega)), (hf.block _ (by omega) (by simp; omega)).trans h.k, (hf.block _ (by omega) (by simp; omega)).trans h.h, own_keep h.m fun g c hg => (hf.block g (lt_of_heap hg) ?_).trans hg⟩
  simp only [List.mem_singleton]
  rintro rfl
  rw [hg] at hw
  simp at hw
theorem ShR.drewN {w wr : World} {H : List Nat} {P : List UInt8} {v : Value} (h : ShR w H P v wr) (n : Nat) : ShR w H P v (wr.drewN n) := ⟨⟨h.below.os, h.below.tape, h.below.output, h.below.size, h.below.block⟩, h.k, h.h, h.m⟩
/-- k numbers of the block's schedule stand in the row -/
def W4 (w : World) (wb : Nat) (P : List UInt8) (v : Value) (H : List Nat) (blk : List UInt8) (k : Nat) (wr : World) : Prop :=
  ShR w H P v wr ∧ w.heap.size + 2 ≤ wb ∧ ∃ cs, wr.heap[wb]? = some (.cells cs 58 (0, 0)) ∧ cs.size = 64 ∧ ∀ j, j < k → cs[j]? = some (.int .u32 ((sched blk k).getD j 0 : Nat))
theorem W4.step {w wr : World} {wb : Nat} {P blk : List UInt8} {v : Value} {H : List Nat} {k : Nat} (h : W4 w wb P v H blk k wr) (hk : k < 64) : W4 w wb P v H blk (k + 1) (wr.setCell ⟨wb, k, none⟩ (.int .u32 (nextW blk (sched blk k) : Nat))) := by
  obtain ⟨hR, hb, cs, hcs, hs, hrow⟩ := h
  refine ⟨hR.set hb hcs _ _, hb, cs.setIfInBounds k (.int .u32 (nextW blk (sched blk k) : Nat)), heap_setCell_at hcs k _, by simpa using hs, fun j hj => ?_⟩
  by_cases e : j = k
  · subst e
    rw [Array.getElem?_setIfInBounds_self_of_lt (by omega), sched_getD blk (by omega)]
  · rw [Array.getElem?_setIfInBounds_ne (by omega), hrow j (by omega), sched_getD blk (by omega), sched_getD blk (by omega)]
theorem W4.drewN {w wr : World} {wb : Nat} {P blk : List UInt8} {v : Value} {H : List Nat} {k : Nat} (h : W4 w wb P v H blk k wr) (n : Nat) : W4 w wb P v H blk k (wr.drewN n) := ⟨h.1.drewN n, h.2.1, h.2.2⟩
def Sh3 (w : World) (wb : Nat) (P : List UInt8) (v iv : Value) (wr : World) : Prop := ∃ j, 64 * j ≤ P.length ∧ iv = .int .i64 ((64 * j : Nat) : Int) ∧ W4 w wb P v (blocks shaH P j) [] 0 wr
def Sh4 (w : World) (wb : Nat) (P : List UInt8) (v : Value) (H : List Nat) (blk : List UInt8) (lo hi : Nat) (iv : Value) (wr : World) : Prop := ∃ k, lo ≤ k ∧ k ≤ hi ∧ iv = .int .i64 (k : Nat) ∧ W4 w wb P v H blk k wr
theorem shaH8 : (u32s shaH).toArray = #[.int .u32 1779033703, .int .u32 3144134277, .int .u32 1013904242, .int .u32 2773480762, .int .u32 1359893119, .int .u32 2600822924, .int .u32 528734635, .int .u32 1541459225] := rfl
theorem make64 : ∀ w : World, (Instr.makeSlice 93 (.int .i64 64) (.int .i64 64)).run Tryd.prog w = .ok (.slice (some ⟨w.heap.size, 0, none⟩) 64 64) (w.alloc (.cells zero64 58)) := fun _ => by kernel_rfl
end Go.Proofs.YtdmladdpbdcpjaaDoor
namespace Go.Proofs.YtdmladdpbdcpjaaDoor
open Go.RowKit

noncomputable def shaB (n : Nat) : Code := ((Tryd.f34.body.bind (blockOf n)).getD .skip)
theorem cutD (U : List UInt8) (a : Nat) {i : Nat} (hi : i < 64) : ((U.drop a).take 64).getD i 0 = U.getD (a + i) 0 := by
  rw [List.getD_eq_getElem?_getD, List.getD_eq_getElem?_getD, List.getElem?_take_of_lt hi, List.getElem?_drop]
def p4 : Nat → Bool := span [(10, 11), (61, 100)]
set_option linter.unusedSimpArgs false in
set_option maxHeartbeats 2000000 in
set_option maxRecDepth 100000 in
theorem b6_law {c : Code} (hc : c = shaB 6) (A : Act) (R : Act → World → Prop) (w wr : World) (wb a cv : Nat) (Av : Option Addr) (U blk : List UInt8) (H : List Nat) (hAs : A.tmps.size = 330)
    (h5 : A.eval (.tmp 5) = .slice Av U.length cv) (h8 : A.eval (.tmp 8) = .slice (some ⟨wb, 0, none⟩) 64 64) (h9 : A.eval (.tmp 9) = .int .i64 a) (h10 : A.eval (.tmp 10) = .int .i64 (0 : Nat))
    (hw : W4 w wb U (.slice Av U.length cv) H blk 0 wr) (hU : U.length ≤ 1048576) (ha : a + 64 ≤ U.length) (hblk : blk = (U.drop a).take 64)
    (h : ∀ A' wr', Keep p4 A A' → W4 w wb U (.slice Av U.length cv) H blk 16 wr' → R A' wr') : c.wp Tryd.prog (only R) A wr := by
  subst hc
  conv => arg 2; whnf
  with_reducible refine o_for 16 (fun i B wx => Keep p4 A B ∧ B.eval (.tmp 10) = .int .i64 (i : Nat) ∧ W4 w wb U (.slice Av U.length cv) H blk i wx) ⟨Keep.refl _ _, h10, hw⟩ ?_ ?_
  · rintro k B wx hi ⟨hk, b10, hw4⟩
    have hBs := hk.size.trans hAs
    have b5 := (hk.ev 5 rfl).trans h5
    have b8 := (hk.ev 8 rfl).trans h8
    have b9 := (hk.ev 9 rfl).trans h9
    have Hw4 := Lib.hid hw4
    obtain ⟨hR, hwb, cs, hcs, hcs8, hrow⟩ := hw4
    have cr := blk_cells hcs
    have hsome : cs[k]? = some (cs[k]'(by omega)) := Array.getElem?_eq_getElem _
    have hcell : wx.cell? ⟨wb, k, none⟩ = some (cs[k]'(by omega)) := (cr.1 k).trans hsome
    have hfz := cr.2.1 k
    generalize cs[k]'(by omega) = old at *
    obtain ⟨A9, c9, he9, hbs⟩ := own_bs hR.m
    simp only [Value.slice.injEq] at he9
    obtain ⟨rfl, _, rfl⟩ := he9
    obtain ⟨bb, oo, rfl, e0⟩ := hbs.at_ (k := a + 4 * k) (by omega)
    obtain ⟨_, _, he1, e1⟩ := hbs.at_ (k := a + 4 * k + 1) (by omega)
    obtain ⟨_, _, he2, e2⟩ := hbs.at_ (k := a + 4 * k + 2) (by omega)
    obtain ⟨_, _, he3, e3⟩ := hbs.at_ (k := a + 4 * k + 3) (by omega)
    cases he1
    cases he2
    cases he3
    have hw : word blk k = (((U.getD (a + 4 * k) 0).toNat * 16777216 ||| (U.getD (a + 4 * k + 1) 0).toNat * 65536) ||| (U.getD (a + 4 * k + 2) 0).toNat * 256) ||| (U.getD (a + 4 * k + 3) 0).toNat := by
      rw [hblk]
      unfold word
      rw [cutD U a (by omega), cutD U a (by omega), cutD U a (by omega), cutD U a (by omega)]
      rfl
    have hv0 := (U.getD (a + 4 * k) 0).toNat_lt
    have hv1 := (U.getD (a + 4 * k + 1) 0).toNat_lt
    have hv2 := (U.getD (a + 4 * k + 2) 0).toNat_lt
    have hv3 := (U.getD (a + 4 * k + 3) 0).toNat_lt
    generalize (U.getD (a + 4 * k) 0).toNat = v0 at *
    generalize (U.getD (a + 4 * k + 1) 0).toNat = v1 at *
    generalize (U.getD (a + 4 * k + 2) 0).toNat = v2 at *
    generalize (U.getD (a + 4 * k + 3) 0).toNat = v3 at *
    have Hval : Hid (bits BinOp.or IntKind.u32 (bits BinOp.or IntKind.u32 (bits BinOp.or IntKind.u32 (IntKind.u32.wrap (IntKind.u32.wrap (v0 : Int) * 16777216)) (IntKind.u32.wrap (IntKind.u32.wrap (v1 : Int) * 65536))) (IntKind.u32.wrap (IntKind.u32.wrap (v2 : Int) * 256))) (IntKind.u32.wrap (v3 : Int)) = (word blk k : Nat)) := Lib.hid (by
      rw [hw]
      exact word_int hv0 hv1 hv2 hv3)
    have hk1 : (0 : Int) ≤ k := by omega
    have hk2 : (k : Int) < 64 := by omega
    have hk3 : (k : Int) < 16 := by omega
    obtain ⟨p, hp⟩ : ∃ p, p = a + 4 * k := ⟨_, rfl⟩
    have hpI : (a : Int) + 4 * (k : Int) = (p : Int) := by omega
    rw [← hp] at e0 e1 e2 e3
    have q0 : (0 : Int) ≤ p := by omega
    have q1 : (p : Int) + 3 < U.length := by omega
    have q2 : (p : Int) < U.length := by omega
    have q3 : (p : Int) + 1 < U.length := by omega
    have q4 : (p : Int) + 2 < U.length := by omega
    have n1 : (0 : Int) ≤ (p : Int) + 1 := by omega
    have n2 : (0 : Int) ≤ (p : Int) + 2 := by omega
    have n3 : (0 : Int) ≤ (p : Int) + 3 := by omega
    have g1 : IntKind.i64.wrap ((p : Int) + 1) = (p : Int) + 1 := by rw [IntKind.wrap_i64]; omega
    have g2 : IntKind.i64.wrap ((p : Int) + 2) = (p : Int) + 2 := by rw [IntKind.wrap_i64]; omega
    have g3 : IntKind.i64.wrap ((p : Int) + 3) = (p : Int) + 3 := by rw [IntKind.wrap_i64]; omega
    have g4 : ((p : Int) + 1).toNat = p + 1 := by omega
    have g5 : ((p : Int) + 2).toNat = p + 2 := by omega
    have g6 : ((p : Int) + 3).toNat = p + 3 := by omega
    have m1 : IntKind.i64.wrap (4 * (k : Int)) = 4 * (k : Int) := by rw [IntKind.wrap_i64]; omega
    have m2 : IntKind.i64.wrap (p : Int) = (p : Int) := by rw [IntKind.wrap_i64]; omega
    have m3 : IntKind.i64.wrap ((k : Int) + 1) = (k : Int) + 1 := by rw [IntKind.wrap_i64]; omega
    clear hblk hp hw hv0 hv1 hv2 hv3 hR hrow hcs hcs8 cr hsome hbs
    with_reducible refine o_list fun OPS => ?_
    iterate 2 (with_reducible refine l_val (v := ?_) (w' := ?_) ?_ ?_; rotate_left 2; (simp only [x_move, x_assign, x_load, x_store, x_bin, x_un, x_conv, x_indexAddr, x_index, x_call, ev_if, ev_const, ev_none, sz_put, hBs, b10, Nat.reduceLT, Nat.reduceEqDiff, if_true, if_false]; go_simp; first | done | rfl | (constructor <;> rfl)))
    with_reducible refine o_nil ⟨?_, ?_⟩
    · (simp only [x_move, x_assign, x_load, x_store, x_bin, x_un, x_conv, x_indexAddr, x_index, x_call, ev_if, ev_const, ev_none, sz_put, hBs, b10, Nat.reduceLT, Nat.reduceEqDiff, if_true, if_false]; first | done | rfl)
    with_reducible refine o_seq ?_
    with_reducible refine o_list fun OPS => ?_
    iterate 5 (with_reducible refine l_val (v := ?_) (w' := ?_) ?_ ?_; rotate_left 2; (simp only [x_move, x_assign, x_load, x_store, x_bin, x_un, x_conv, x_indexAddr, x_index, x_call, ev_if, ev_const, ev_none, sz_put, hBs, b9, b10, hpI, m1, m2, Nat.reduceLT, Nat.reduceEqDiff, if_true, if_false]; go_simp; first | done | rfl | (constructor <;> rfl)))
    with_reducible refine o_nil ?_
    with_reducible refine region_still_tail 32 (by kernel_rfl) (by kernel_rfl) ?_
    intro OPS
    simp only [List.take_succ_cons, List.take_zero, List.drop_succ_cons, List.drop_zero]
    iterate 32 (with_reducible refine s_val (v := ?_) ?_ ?_; rotate_left; (simp only [x_move, x_assign, x_load, x_store, x_bin, x_un, x_conv, x_indexAddr, x_index, x_call, ev_if, ev_const, ev_none, sz_put, hBs, b5, b8, b9, b10, hpI, m1, m2, Nat.reduceLT, Nat.reduceEqDiff, if_true, if_false]; go_simp; first | done | rfl | (constructor <;> rfl)))
    with_reducible refine wpStill_nil ?_
    with_reducible refine l_skip (w' := ?_) ?_ ?_; rotate_left; (simp only [x_move, x_assign, x_load, x_store, x_bin, x_un, x_conv, x_indexAddr, x_index, x_call, ev_if, ev_const, ev_none, sz_put, hBs, Hval.out, Nat.reduceLT, Nat.reduceEqDiff, if_true, if_false]; go_simp; first | done | rfl | (constructor <;> rfl))
    with_reducible refine o_nil ?_
    with_reducible refine o_list fun OPS => ?_
    iterate 3 (with_reducible refine l_val (v := ?_) (w' := ?_) ?_ ?_; rotate_left 2; (simp only [x_move, x_assign, x_load, x_store, x_bin, x_un, x_conv, x_indexAddr, x_index, x_call, ev_if, ev_const, ev_none, sz_put, hBs, b10, Nat.reduceLT, Nat.reduceEqDiff, if_true, if_false]; go_simp; first | done | rfl | (constructor <;> rfl)))
    with_reducible refine o_nil ⟨?_, ?_, ?_⟩
    · with_reducible repeat (first | exact hk | refine Keep.put rfl ?_ | refine Keep.putN ?_)
    · (simp only [x_move, x_assign, x_load, x_store, x_bin, x_un, x_conv, x_indexAddr, x_index, x_call, ev_if, ev_const, ev_none, sz_put, hBs, Nat.reduceLT, Nat.reduceEqDiff, if_true, if_false]; first | done | rfl)
    · have hs := (Hw4.out.step (by omega : k < 64)).drewN 1
      rw [show nextW blk (sched blk k) = word blk k by unfold nextW; rw [sched_length, if_pos hi]] at hs
      exact hs
  · rintro B wx ⟨hk, b10, hw4⟩
    have hBs := hk.size.trans hAs
    with_reducible refine o_list fun OPS => ?_
    iterate 2 (with_reducible refine l_val (v := ?_) (w' := ?_) ?_ ?_; rotate_left 2; (simp only [x_move, x_assign, x_load, x_store, x_bin, x_un, x_conv, x_indexAddr, x_index, x_call, ev_if, ev_const, ev_none, sz_put, hBs, b10, Nat.reduceLT, Nat.reduceEqDiff, if_true, if_false]; go_simp; first | done | rfl | (constructor <;> rfl)))
    with_reducible refine o_nil ⟨?_, ?_⟩
    · (simp only [x_move, x_assign, x_load, x_store, x_bin, x_un, x_conv, x_indexAddr, x_index, x_call, ev_if, ev_const, ev_none, sz_put, hBs, b10, Nat.reduceLT, Nat.reduceEqDiff, if_true, if_false]; first | done | rfl)
    refine h _ _ ?_ hw4
    with_reducible repeat (first | exact hk | refine Keep.put rfl ?_ | refine Keep.putN ?_)
end Go.Proofs.YtdmladdpbdcpjaaDoor
namespace Go.Proofs.YtdmladdpbdcpjaaDoor
open Go.RowKit

theorem turn_c (x n : Nat) (hx : x < 4294967296) (hn : n < 32) (hn0 : 0 < n) (w0 : World) : ∀ w', (∃ k, w' = w0.drewN k) → Calls Tryd.prog 66 #[.int .u32 x, .int .i64 n] w' fun e w'' => e = .returned (.int .u32 (rotr x n : Nat)) ∧ ∃ k, w'' = w0.drewN k := by
  rintro _ ⟨k, rfl⟩
  refine (turn_any x n _ hx hn hn0).mono ?_
  rintro e _ ⟨he, q, rfl⟩
  exact ⟨he, k + q, World.drewN_drewN _ _ _⟩
def p8 : Nat → Bool := span [(12, 14), (101, 162)]
set_option linter.unusedSimpArgs false in
set_option maxHeartbeats 2000000 in
set_option maxRecDepth 100000 in
theorem b8_law {c : Code} (hc : c = shaB 8) (A : Act) (R : Act → World → Prop) (w wr : World) (wb : Nat) (v : Value) (U blk : List UInt8) (H : List Nat) (hAs : A.tmps.size = 330)
    (h8 : A.eval (.tmp 8) = .slice (some ⟨wb, 0, none⟩) 64 64) (h12 : A.eval (.tmp 12) = .int .i64 (16 : Nat))
    (hw : W4 w wb U v H blk 16 wr)
    (h : ∀ A' wr', Keep p8 A A' → W4 w wb U v H blk 64 wr' → R A' wr') : c.wp Tryd.prog (only R) A wr := by
  subst hc
  conv => arg 2; whnf
  with_reducible refine o_for 48 (fun i B wx => Keep p8 A B ∧ B.eval (.tmp 12) = .int .i64 ((16 + i : Nat) : Int) ∧ W4 w wb U v H blk (16 + i) wx) ⟨Keep.refl _ _, h12, hw⟩ ?_ ?_
  · rintro i B wx hi ⟨hk, b12, hw4⟩
    have hBs := hk.size.trans hAs
    have b8 := (hk.ev 8 rfl).trans h8
    obtain ⟨k, hki⟩ : ∃ k, k = 16 + i := ⟨_, rfl⟩
    rw [show 16 + (i + 1) = k + 1 by omega]
    rw [← hki] at b12 hw4
    have Hw4 := Lib.hid hw4
    obtain ⟨hR, hwb, cs, hcs, hcs8, hrow⟩ := hw4
    have cr := blk_cells hcs
    have hsome : cs[k]? = some (cs[k]'(by omega)) := Array.getElem?_eq_getElem _
    have hcell : wx.cell? ⟨wb, k, none⟩ = some (cs[k]'(by omega)) := (cr.1 k).trans hsome
    have hfz := cr.2.1 k
    generalize cs[k]'(by omega) = old at *
    have hwn : nextW blk (sched blk k) = add32 (add32 (add32 ((sched blk k).getD (k - 16) 0) (low0 ((sched blk k).getD (k - 15) 0))) ((sched blk k).getD (k - 7) 0)) (low1 ((sched blk k).getD (k - 2) 0)) := by
      unfold nextW
      rw [sched_length, if_neg (by omega)]
    have r16 := (cr.1 (k - 16)).trans (hrow (k - 16) (by omega))
    have r15 := (cr.1 (k - 15)).trans (hrow (k - 15) (by omega))
    have r7 := (cr.1 (k - 7)).trans (hrow (k - 7) (by omega))
    have r2 := (cr.1 (k - 2)).trans (hrow (k - 2) (by omega))
    have x16 := (sched_fit blk k).getD (k - 16)
    have x15 := (sched_fit blk k).getD (k - 15)
    have x7 := (sched_fit blk k).getD (k - 7)
    have x2 := (sched_fit blk k).getD (k - 2)
    generalize (sched blk k).getD (k - 16) 0 = a16 at *
    generalize (sched blk k).getD (k - 15) 0 = a15 at *
    generalize (sched blk k).getD (k - 7) 0 = a7 at *
    generalize (sched blk k).getD (k - 2) 0 = a2 at *
    have L0 := low0_int x15
    have L1 := low1_int x2
    have T1 := turn_c a15 7 x15 (by omega) (by omega)
    have T2 := turn_c a15 18 x15 (by omega) (by omega)
    have T3 := turn_c a2 17 x2 (by omega) (by omega)
    have T4 := turn_c a2 19 x2 (by omega) (by omega)
    have S1 := add32_int a16 (low0 a15)
    have S2 := add32_int (add32 a16 (low0 a15)) a7
    have S3 := add32_int (add32 (add32 a16 (low0 a15)) a7) (low1 a2)
    have Hwn := Lib.hid hwn
    have hir : (0 : Int) ≤ k := by omega
    have hil : (k : Int) < 64 := by omega
    have p16 : ((k : Int) - 16).toNat = k - 16 := by omega
    have p15 : ((k : Int) - 15).toNat = k - 15 := by omega
    have p7 : ((k : Int) - 7).toNat = k - 7 := by omega
    have p2 : ((k : Int) - 2).toNat = k - 2 := by omega
    have u16' : (16 : Int) ≤ (k : Int) := by omega
    have u15' : (15 : Int) ≤ (k : Int) := by omega
    have u7' : (7 : Int) ≤ (k : Int) := by omega
    have u2' : (2 : Int) ≤ (k : Int) := by omega
    have v16' : (k : Int) - 16 < 64 := by omega
    have v15' : (k : Int) - 15 < 64 := by omega
    have v7' : (k : Int) - 7 < 64 := by omega
    have v2' : (k : Int) - 2 < 64 := by omega
    have w16 : IntKind.i64.wrap ((k : Int) - 16) = (k : Int) - 16 := by rw [IntKind.wrap_i64]; omega
    have w15 : IntKind.i64.wrap ((k : Int) - 15) = (k : Int) - 15 := by rw [IntKind.wrap_i64]; omega
    have w7 : IntKind.i64.wrap ((k : Int) - 7) = (k : Int) - 7 := by rw [IntKind.wrap_i64]; omega
    have w2 : IntKind.i64.wrap ((k : Int) - 2) = (k : Int) - 2 := by rw [IntKind.wrap_i64]; omega
    have m3 : IntKind.i64.wrap ((k : Int) + 1) = (k : Int) + 1 := by rw [IntKind.wrap_i64]; omega
    clear hwn cr hki hR hrow hcs hcs8 hsome x16 x15 x7 x2
    with_reducible refine o_list fun OPS => ?_
    iterate 2 (with_reducible refine l_val (v := ?_) (w' := ?_) ?_ ?_; rotate_left 2; (simp only [x_move, x_assign, x_load, x_store, x_bin, x_un, x_conv, x_indexAddr, x_index, x_call, ev_if, ev_const, ev_none, sz_put, hBs, b12, Nat.reduceLT, Nat.reduceEqDiff, if_true, if_false]; go_simp; first | done | rfl | (constructor <;> rfl)))
    with_reducible refine o_nil ⟨?_, ?_⟩
    · (simp only [x_move, x_assign, x_load, x_store, x_bin, x_un, x_conv, x_indexAddr, x_index, x_call, ev_if, ev_const, ev_none, sz_put, hBs, b12, Nat.reduceLT, Nat.reduceEqDiff, if_true, if_false]; first | done | rfl)
    with_reducible refine o_seq ?_
    with_reducible refine region_quiet (by kernel_rfl) (by kernel_rfl) ?_
    intro OPS
    iterate 5 (with_reducible refine q_val (v := ?_) ?_ ?_; rotate_left; (rintro _ ⟨_, rfl⟩; simp only [x_move, x_assign, x_load, x_store, x_bin, x_un, x_conv, x_indexAddr, x_index, x_call, ev_if, ev_const, ev_none, sz_put, hBs, b8, b12, Nat.reduceLT, Nat.reduceEqDiff, if_true, if_false]; go_simp; first | done | rfl | (constructor <;> rfl)))
    with_reducible refine q_call (v := .int .u32 (rotr a15 7 : Nat)) (f := 66) (args := #[.int .u32 a15, .int .i64 (7 : Nat)]) ?_ (T1 _) ?_
    · (rintro _ ⟨_, rfl⟩; simp only [x_call, ev_if, ev_const, sz_put, hBs, Nat.reduceLT, Nat.reduceEqDiff, if_true, if_false]; go_simp; first | done | rfl)
    iterate 5 (with_reducible refine q_val (v := ?_) ?_ ?_; rotate_left; (rintro _ ⟨_, rfl⟩; simp only [x_move, x_assign, x_load, x_store, x_bin, x_un, x_conv, x_indexAddr, x_index, x_call, ev_if, ev_const, ev_none, sz_put, hBs, b8, b12, Nat.reduceLT, Nat.reduceEqDiff, if_true, if_false]; go_simp; first | done | rfl | (constructor <;> rfl)))
    with_reducible refine q_call (v := .int .u32 (rotr a15 18 : Nat)) (f := 66) (args := #[.int .u32 a15, .int .i64 (18 : Nat)]) ?_ (T2 _) ?_
    · (rintro _ ⟨_, rfl⟩; simp only [x_call, ev_if, ev_const, sz_put, hBs, Nat.reduceLT, Nat.reduceEqDiff, if_true, if_false]; go_simp; first | done | rfl)
    iterate 9 (with_reducible refine q_val (v := ?_) ?_ ?_; rotate_left; (rintro _ ⟨_, rfl⟩; simp only [x_move, x_assign, x_load, x_store, x_bin, x_un, x_conv, x_indexAddr, x_index, x_call, ev_if, ev_const, ev_none, sz_put, hBs, b8, b12, Nat.reduceLT, Nat.reduceEqDiff, if_true, if_false]; go_simp; first | done | rfl | (constructor <;> rfl)))
    with_reducible refine wpQuiet_nil ?_
    rintro _ ⟨n1, rfl⟩
    with_reducible refine o_nrm ?_
    with_reducible refine o_seq ?_
    with_reducible refine region_quiet (by kernel_rfl) (by kernel_rfl) ?_
    intro OPS
    iterate 5 (with_reducible refine q_val (v := ?_) ?_ ?_; rotate_left; (rintro _ ⟨_, rfl⟩; simp only [x_move, x_assign, x_load, x_store, x_bin, x_un, x_conv, x_indexAddr, x_index, x_call, ev_if, ev_const, ev_none, sz_put, hBs, b8, b12, Nat.reduceLT, Nat.reduceEqDiff, if_true, if_false]; go_simp; first | done | rfl | (constructor <;> rfl)))
    with_reducible refine q_call (v := .int .u32 (rotr a2 17 : Nat)) (f := 66) (args := #[.int .u32 a2, .int .i64 (17 : Nat)]) ?_ (T3 _) ?_
    · (rintro _ ⟨_, rfl⟩; simp only [x_call, ev_if, ev_const, sz_put, hBs, Nat.reduceLT, Nat.reduceEqDiff, if_true, if_false]; go_simp; first | done | rfl)
    iterate 5 (with_reducible refine q_val (v := ?_) ?_ ?_; rotate_left; (rintro _ ⟨_, rfl⟩; simp only [x_move, x_assign, x_load, x_store, x_bin, x_un, x_conv, x_indexAddr, x_index, x_call, ev_if, ev_const, ev_none, sz_put, hBs, b8, b12, Nat.reduceLT, Nat.reduceEqDiff, if_true, if_false]; go_simp; first | done | rfl | (constructor <;> rfl)))
    with_reducible refine q_call (v := .int .u32 (rotr a2 19 : Nat)) (f := 66) (args := #[.int .u32 a2, .int .i64 (19 : Nat)]) ?_ (T4 _) ?_
    · (rintro _ ⟨_, rfl⟩; simp only [x_call, ev_if, ev_const, sz_put, hBs, Nat.reduceLT, Nat.reduceEqDiff, if_true, if_false]; go_simp; first | done | rfl)
    iterate 9 (with_reducible refine q_val (v := ?_) ?_ ?_; rotate_left; (rintro _ ⟨_, rfl⟩; simp only [x_move, x_assign, x_load, x_store, x_bin, x_un, x_conv, x_indexAddr, x_index, x_call, ev_if, ev_const, ev_none, sz_put, hBs, b8, b12, Nat.reduceLT, Nat.reduceEqDiff, if_true, if_false]; go_simp; first | done | rfl | (constructor <;> rfl)))
    with_reducible refine wpQuiet_nil ?_
    rintro _ ⟨n2, rfl⟩
    with_reducible refine o_nrm ?_
    with_reducible refine region_still_tail 18 (by kernel_rfl) (by kernel_rfl) ?_
    intro OPS
    simp only [List.take_succ_cons, List.take_zero, List.drop_succ_cons, List.drop_zero]
    iterate 18 (with_reducible refine s_val (v := ?_) ?_ ?_; rotate_left; (simp only [x_move, x_assign, x_load, x_store, x_bin, x_un, x_conv, x_indexAddr, x_index, x_call, ev_if, ev_const, ev_none, sz_put, hBs, b8, b12, Nat.reduceLT, Nat.reduceEqDiff, if_true, if_false]; go_simp; first | done | rfl | (constructor <;> rfl)))
    with_reducible refine wpStill_nil ?_
    with_reducible refine l_skip (w' := ?_) ?_ ?_; rotate_left; (simp only [x_move, x_assign, x_load, x_store, x_bin, x_un, x_conv, x_indexAddr, x_index, x_call, ev_if, ev_const, ev_none, sz_put, hBs, Nat.reduceLT, Nat.reduceEqDiff, if_true, if_false]; go_simp; first | done | rfl | (constructor <;> rfl))
    with_reducible refine o_nil ?_
    with_reducible refine o_list fun OPS => ?_
    iterate 3 (with_reducible refine l_val (v := ?_) (w' := ?_) ?_ ?_; rotate_left 2; (simp only [x_move, x_assign, x_load, x_store, x_bin, x_un, x_conv, x_indexAddr, x_index, x_call, ev_if, ev_const, ev_none, sz_put, hBs, b12, Nat.reduceLT, Nat.reduceEqDiff, if_true, if_false]; go_simp; first | done | rfl | (constructor <;> rfl)))
    with_reducible refine o_nil ⟨?_, ?_, ?_⟩
    · with_reducible repeat (first | exact hk | refine Keep.put rfl ?_ | refine Keep.putN ?_)
    · (simp only [x_move, x_assign, x_load, x_store, x_bin, x_un, x_conv, x_indexAddr, x_index, x_call, ev_if, ev_const, ev_none, sz_put, hBs, Nat.reduceLT, Nat.reduceEqDiff, if_true, if_false]; first | done | rfl)
    · have hs := (Hw4.out.drewN (n1 + n2 + 1)).step (by omega : k < 64)
      rw [Hwn.out] at hs
      exact hs
  · rintro B wx ⟨hk, b12, hw4⟩
    have hBs := hk.size.trans hAs
    with_reducible refine o_list fun OPS => ?_
    iterate 2 (with_reducible refine l_val (v := ?_) (w' := ?_) ?_ ?_; rotate_left 2; (simp only [x_move, x_assign, x_load, x_store, x_bin, x_un, x_conv, x_indexAddr, x_index, x_call, ev_if, ev_const, ev_none, sz_put, hBs, b12, Nat.reduceLT, Nat.reduceEqDiff, if_true, if_false]; go_simp; first | done | rfl | (constructor <;> rfl)))
    with_reducible refine o_nil ⟨?_, ?_⟩
    · (simp only [x_move, x_assign, x_load, x_store, x_bin, x_un, x_conv, x_indexAddr, x_index, x_call, ev_if, ev_const, ev_none, sz_put, hBs, b12, Nat.reduceLT, Nat.reduceEqDiff, if_true, if_false]; first | done | rfl)
    refine h _ _ ?_ hw4
    with_reducible repeat (first | exact hk | refine Keep.put rfl ?_ | refine Keep.putN ?_)
end Go.Proofs.YtdmladdpbdcpjaaDoor
namespace Go.Proofs.YtdmladdpbdcpjaaDoor
open Go.RowKit

theorem x_build (ρ : Operand → Value) (d : Option Tmp) (ty : TypeId) (pos : String) (af : Array Edge) (g : Option (Nat × Bool)) (t : TypeId) (n : Nat) (ps : Array (Nat × Operand)) : execOp ρ { dst := d, op := .buildSlice t n ps, type := ty, pos := pos, after := af, guard := g } = (do pure (.value (← Instr.buildSlice t n (ps.map fun (i, x) => (i, ρ x))))) := rfl
/-- eight numbers in a block of their own -/
def Row8 (b : Nat) (v : Value) (x : List Nat) (wx : World) : Prop := ∃ vb cv cs, b ≤ vb ∧ v = .slice (some ⟨vb, 0, none⟩) 8 cv ∧ wx.heap[vb]? = some (.cells cs 58 (0, 0)) ∧ ∀ j, j < 8 → cs[j]? = some (.int .u32 (x.getD j 0 : Nat))
theorem Row8.drewN {b : Nat} {v : Value} {x : List Nat} {wx : World} (h : Row8 b v x wx) (n : Nat) : Row8 b v x (wx.drewN n) := h
def adds (H x : List Nat) (k : Nat) : List Nat := (List.zipWith add32 x H).take k ++ H.drop k
theorem adds_zero (H x : List Nat) : adds H x 0 = H := by simp [adds]
theorem adds_all {H x : List Nat} (hH : H.length = 8) (hx : x.length = 8) : adds H x 8 = List.zipWith add32 x H := by
  unfold adds
  rw [List.take_of_length_le (by rw [List.length_zipWith]; omega), List.drop_of_length_le (by omega), List.append_nil]
theorem adds_length {H x : List Nat} (hH : H.length = 8) (hx : x.length = 8) {k : Nat} (hk : k ≤ 8) : (adds H x k).length = 8 := by
  unfold adds
  rw [List.length_append, List.length_take, List.length_drop, List.length_zipWith]
  omega
theorem adds_get {H x : List Nat} (hH : H.length = 8) (hx : x.length = 8) {k i : Nat} (hk : k ≤ 8) (hi : i < 8) : (adds H x k)[i]? = some (if i < k then add32 (x.getD i 0) (H.getD i 0) else H.getD i 0) := by
  have e1 : x[i]? = some (x.getD i 0) := by rw [List.getD_eq_getElem?_getD, List.getElem?_eq_getElem (by omega)]; rfl
  have e2 : H[i]? = some (H.getD i 0) := by rw [List.getD_eq_getElem?_getD, List.getElem?_eq_getElem (by omega)]; rfl
  have hz : (List.zipWith add32 x H).length = 8 := by rw [List.length_zipWith]; omega
  unfold adds
  by_cases h : i < k
  · rw [if_pos h, List.getElem?_append_left (by rw [List.length_take]; omega), List.getElem?_take_of_lt h, List.getElem?_zipWith, e1, e2]
  · rw [if_neg h, List.getElem?_append_right (by rw [List.length_take]; omega), List.getElem?_drop, List.length_take, show k + (i - min k (List.zipWith add32 x H).length) = i by omega, e2]
theorem adds_at {H x : List Nat} (hH : H.length = 8) (hx : x.length = 8) {k : Nat} (hk : k < 8) : (u32s (adds H x k))[k]? = some (.int .u32 (H.getD k 0 : Nat)) := by
  unfold u32s
  rw [List.getElem?_map, adds_get hH hx (by omega) hk, if_neg (by omega)]
  rfl
theorem adds_set {H x : List Nat} (hH : H.length = 8) (hx : x.length = 8) {k : Nat} (hk : k < 8) : (u32s (adds H x k)).set k (.int .u32 (add32 (x.getD k 0) (H.getD k 0) : Nat)) = u32s (adds H x (k + 1)) := by
  have e1 : (u32s (adds H x k)).set k (.int .u32 (add32 (x.getD k 0) (H.getD k 0) : Nat)) = u32s ((adds H x k).set k (add32 (x.getD k 0) (H.getD k 0))) := by
    unfold u32s
    rw [List.map_set]
  rw [e1]
  congr 1
  apply List.ext_getElem?
  intro i
  by_cases hi : i < 8
  · rw [List.getElem?_set, adds_get hH hx (by omega) hi]
    by_cases he : k = i
    · subst he
      rw [if_pos rfl, if_pos (by rw [adds_length hH hx (by omega)]; exact hi), adds_get hH hx (by omega) hi, if_pos (by omega)]
    · rw [if_neg he, adds_get hH hx (by omega) hi]
      congr 1
      by_cases h2 : i < k
      · rw [if_pos h2, if_pos (by omega)]
      · rw [if_neg h2, if_neg (by omega)]
  · rw [List.getElem?_eq_none (by rw [List.length_set, adds_length hH hx (by omega)]; omega), List.getElem?_eq_none (by rw [adds_length hH hx (by omega)]; omega)]
theorem W4.setH {w wr : World} {wb : Nat} {P blk : List UInt8} {v : Value} {H x : List Nat} {k n : Nat} (hH : H.length = 8) (hx : x.length = 8) (hk : k < 8) (h : W4 w wb P v (adds H x k) blk n wr) :
    W4 w wb P v (adds H x (k + 1)) blk n (wr.setCell ⟨w.heap.size + 1, k, none⟩ (.int .u32 (add32 (x.getD k 0) (H.getD k 0) : Nat))) := by
  obtain ⟨hR, hb, cs, hcs, hs, hrow⟩ := h
  have hsz := hR.size
  have hf : Fr [w.heap.size + 1] wr (wr.setCell ⟨w.heap.size + 1, k, none⟩ (.int .u32 (add32 (x.getD k 0) (H.getD k 0) : Nat))) := Fr.setCell _ _ _ _ (by simp)
  have hlw := lt_of_heap hcs
  refine ⟨⟨hR.below.trans (hf.below hR.below.size (by simp)), (hf.block _ (by omega) (by simp)).trans hR.k, ?_, own_keep hR.m fun g c hg => (hf.block g (lt_of_heap hg) ?_).trans hg⟩, hb, cs, (hf.block _ hlw (by simp; omega)).trans hcs, hs, hrow⟩
  · rw [heap_setCell_at hR.h, List.setIfInBounds_toArray, adds_set hH hx hk]
  · simp only [List.mem_singleton]
    rintro rfl
    have := hR.h
    rw [hg] at this
    simp at this
theorem Row8.setH {b : Nat} {v : Value} {x : List Nat} {wx : World} (h : Row8 b v x wx) {g : Nat} (hg : g < b) (k : Nat) (u : Value) : Row8 b v x (wx.setCell ⟨g, k, none⟩ u) := by
  obtain ⟨vb, cv, cs, h1, h2, h3, h4⟩ := h
  exact ⟨vb, cv, cs, h1, h2, ((Fr.setCell [g] wx ⟨g, k, none⟩ u (by simp)).block _ (lt_of_heap h3) (by simp; omega)).trans h3, h4⟩
def p12 : Nat → Bool := span [(22, 22), (283, 298)]
set_option linter.unusedSimpArgs false in
set_option maxHeartbeats 4000000 in
set_option maxRecDepth 100000 in
theorem b12_law {c : Code} (hc : c = shaB 12) (A : Act) (R : Act → World → Prop) (w wr : World) (wb n : Nat) (v : Value) (U blk : List UInt8) (H x : List Nat) (hAs : A.tmps.size = 330) (hH : H.length = 8) (hx : x.length = 8)
    (h4 : A.eval (.tmp 4) = .slice (some ⟨w.heap.size + 1, 0, none⟩) 8 8) (h22 : A.eval (.tmp 22) = .int .i64 (0 : Nat))
    (hw : W4 w wb U v H blk n wr) (hv : Row8 (w.heap.size + 2) (A.eval (.tmp 15)) x wr)
    (h : ∀ A' wr', Keep p12 A A' → W4 w wb U v (List.zipWith add32 x H) blk n wr' → R A' wr') : c.wp Tryd.prog (only R) A wr := by
  subst hc
  conv => arg 2; whnf
  with_reducible refine o_for 8 (fun k B wx => Keep p12 A B ∧ B.eval (.tmp 22) = .int .i64 (k : Nat) ∧ W4 w wb U v (adds H x k) blk n wx ∧ Row8 (w.heap.size + 2) (A.eval (.tmp 15)) x wx) ⟨Keep.refl _ _, h22, ?_, hv⟩ ?_ ?_
  · rw [adds_zero]; exact hw
  · rintro k B wx hi ⟨hk, b22, hw4, hv⟩
    have hBs := hk.size.trans hAs
    have b4 := (hk.ev 4 rfl).trans h4
    have Hw4 := Lib.hid hw4
    have Hv := Lib.hid hv
    obtain ⟨vb, cv, cs, hvbB, b15, hvb, hx8⟩ := hv
    replace b15 := (hk.ev 15 rfl).trans b15
    have ch : wx.cell? ⟨w.heap.size + 1, k, none⟩ = some (.int .u32 (H.getD k 0 : Nat)) := ((blk_cells hw4.1.h).1 k).trans (by rw [List.getElem?_toArray]; exact adds_at hH hx hi)
    have cfz := (blk_cells hw4.1.h).2.1 k
    have cv1 := ((blk_cells hvb).1 k).trans (hx8 k hi)
    have S1 := add32_int (H.getD k 0) (x.getD k 0)
    have Hfin := Lib.hid (W4.setH hH hx hi (hw4.drewN 1))
    rw [add32_comm] at Hfin
    generalize H.getD k 0 = hk0 at *
    generalize x.getD k 0 = xk0 at *
    have hir : (0 : Int) ≤ k := by omega
    have hil : (k : Int) < 8 := by omega
    have m3 : IntKind.i64.wrap ((k : Int) + 1) = (k : Int) + 1 := by rw [IntKind.wrap_i64]; omega
    clear hvb hx8 hw4
    with_reducible refine o_list fun OPS => ?_
    iterate 2 (with_reducible refine l_val (v := ?_) (w' := ?_) ?_ ?_; rotate_left 2; (simp only [x_move, x_assign, x_load, x_store, x_bin, x_un, x_conv, x_indexAddr, x_index, x_call, ev_if, ev_const, ev_none, sz_put, hBs, b22, Nat.reduceLT, Nat.reduceEqDiff, if_true, if_false]; go_simp; first | done | rfl | (constructor <;> rfl)))
    with_reducible refine o_nil ⟨?_, ?_⟩
    · (simp only [x_move, x_assign, x_load, x_store, x_bin, x_un, x_conv, x_indexAddr, x_index, x_call, ev_if, ev_const, ev_none, sz_put, hBs, b22, Nat.reduceLT, Nat.reduceEqDiff, if_true, if_false]; first | done | rfl)
    with_reducible refine region_still_tail 12 (by kernel_rfl) (by kernel_rfl) ?_
    intro OPS
    simp only [List.take_succ_cons, List.take_zero, List.drop_succ_cons, List.drop_zero]
    iterate 12 (with_reducible refine s_val (v := ?_) ?_ ?_; rotate_left; (simp only [x_move, x_assign, x_load, x_store, x_bin, x_un, x_conv, x_indexAddr, x_index, x_call, ev_if, ev_const, ev_none, sz_put, hBs, b4, b15, b22, Nat.reduceLT, Nat.reduceEqDiff, if_true, if_false]; go_simp; first | done | rfl | (constructor <;> rfl)))
    with_reducible refine wpStill_nil ?_
    with_reducible refine l_skip (w' := ?_) ?_ ?_; rotate_left; (simp only [x_move, x_assign, x_load, x_store, x_bin, x_un, x_conv, x_indexAddr, x_index, x_call, ev_if, ev_const, ev_none, sz_put, hBs, Nat.reduceLT, Nat.reduceEqDiff, if_true, if_false]; go_simp; first | done | rfl | (constructor <;> rfl))
    with_reducible refine o_nil ?_
    with_reducible refine o_list fun OPS => ?_
    iterate 3 (with_reducible refine l_val (v := ?_) (w' := ?_) ?_ ?_; rotate_left 2; (simp only [x_move, x_assign, x_load, x_store, x_bin, x_un, x_conv, x_indexAddr, x_index, x_call, ev_if, ev_const, ev_none, sz_put, hBs, b22, Nat.reduceLT, Nat.reduceEqDiff, if_true, if_false]; go_simp; first | done | rfl | (constructor <;> rfl)))
    with_reducible refine o_nil ⟨?_, ?_, ?_, ?_⟩
    · with_reducible repeat (first | exact hk | refine Keep.put rfl ?_ | refine Keep.putN ?_)
    · (simp only [x_move, x_assign, x_load, x_store, x_bin, x_un, x_conv, x_indexAddr, x_index, x_call, ev_if, ev_const, ev_none, sz_put, hBs, Nat.reduceLT, Nat.reduceEqDiff, if_true, if_false]; first | done | rfl)
    · exact Hfin.out
    · exact (Hv.out.drewN 1).setH (by omega) _ _
  · rintro B wx ⟨hk, b22, hw4, hv⟩
    have hBs := hk.size.trans hAs
    rw [adds_all hH hx] at hw4
    with_reducible refine o_list fun OPS => ?_
    iterate 2 (with_reducible refine l_val (v := ?_) (w' := ?_) ?_ ?_; rotate_left 2; (simp only [x_move, x_assign, x_load, x_store, x_bin, x_un, x_conv, x_indexAddr, x_index, x_call, ev_if, ev_const, ev_none, sz_put, hBs, b22, Nat.reduceLT, Nat.reduceEqDiff, if_true, if_false]; go_simp; first | done | rfl | (constructor <;> rfl)))
    with_reducible refine o_nil ⟨?_, ?_⟩
    · (simp only [x_move, x_assign, x_load, x_store, x_bin, x_un, x_conv, x_indexAddr, x_index, x_call, ev_if, ev_const, ev_none, sz_put, hBs, b22, Nat.reduceLT, Nat.reduceEqDiff, if_true, if_false]; first | done | rfl)
    refine h _ _ ?_ hw4
    with_reducible repeat (first | exact hk | refine Keep.put rfl ?_ | refine Keep.putN ?_)
def O14 (w : World) (H : List Nat) (k : Nat) (v : Value) (wr : World) : Prop :=
  wr.ownsRow w.heap.size 5 1 v ((H.take k).flatMap wordBytes).length (u8s ((H.take k).flatMap wordBytes)) ∧ Below w.heap.size w wr ∧ wr.heap[w.heap.size + 1]? = some (.cells (u32s H).toArray 58 (0, 0))
theorem O14.step {w wr wx : World} {H : List Nat} {k : Nat} {v v' : Value} {O : List UInt8} {o : Obj} (hO : O = (H.take k).flatMap wordBytes) (hk : k < H.length) (h : O14 w H k v wr)
    (hown' : wx.ownsRow w.heap.size 5 1 v' (O.length + 4) (u8s O ++ u8s (wordBytes (H.getD k 0)))) (hg : (wr.alloc o).grownBy wx v.ownBlock) : O14 w H (k + 1) v' wx := by
  obtain ⟨hown, hB, hh⟩ := h
  have hlt := lt_of_heap hh
  refine ⟨?_, ((hB.alloc hB.size o).grown hg (by have := hB.size; simp; omega) (fun k hk => (own_blk hown k hk).1)), ?_⟩
  · have e : (H.take (k + 1)).flatMap wordBytes = O ++ wordBytes (H.getD k 0) := by
      rw [List.take_succ_eq_append_getElem hk, List.flatMap_append, ← hO]
      simp [List.getD_eq_getElem?_getD, hk]
    rw [e, List.length_append]
    have h4 : (wordBytes (H.getD k 0)).length = 4 := rfl
    rw [h4, show u8s (O ++ wordBytes (H.getD k 0)) = u8s O ++ u8s (wordBytes (H.getD k 0)) by simp [u8s]]
    exact hown'
  · refine (hg.block _ (by simp; omega) fun e => ?_).trans ((Below.heap_alloc _ _ _ hlt).trans hh)
    obtain ⟨_, cur, hc⟩ := own_blk hown _ e.symm
    rw [hh] at hc
    simp at hc
theorem build4 : ∀ (w : World) (v0 v1 v2 v3 : Int), (Instr.buildSlice 28 4 #[(0, .int .u8 v0), (1, .int .u8 v1), (2, .int .u8 v2), (3, .int .u8 v3)]).run Tryd.prog w = .ok (.slice (some ⟨w.heap.size, 0, none⟩) 4 4) (w.alloc (.cells #[.int .u8 v0, .int .u8 v1, .int .u8 v2, .int .u8 v3] 5)) := fun _ _ _ _ _ => by kernel_rfl
def p14 : Nat → Bool := span [(23, 24), (299, 328)]
set_option linter.unusedSimpArgs false in
set_option maxHeartbeats 4000000 in
set_option maxRecDepth 100000 in
theorem b14_law {c : Code} (hc : c = shaB 14) (A : Act) (R : Act → World → Prop) (w wr : World) (H : List Nat) (hAs : A.tmps.size = 330) (hH : H.length = 8)
    (h4 : A.eval (.tmp 4) = .slice (some ⟨w.heap.size + 1, 0, none⟩) 8 8) (h24 : A.eval (.tmp 24) = .int .i64 (0 : Nat))
    (hw : O14 w H 0 (A.eval (.tmp 23)) wr)
    (h : ∀ A' wr', Keep p14 A A' → O14 w H 8 (A'.eval (.tmp 23)) wr' → R A' wr') : c.wp Tryd.prog (only R) A wr := by
  obtain ⟨i0, hi0, hz0, hz1, hz2⟩ := info_parts infoU8
  subst hc
  conv => arg 2; whnf
  with_reducible refine o_for 8 (fun k B wx => Keep p14 A B ∧ B.eval (.tmp 24) = .int .i64 (k : Nat) ∧ O14 w H k (B.eval (.tmp 23)) wx) ⟨Keep.refl _ _, h24, hw⟩ ?_ ?_
  · rintro k B wx hi ⟨hk, b24, hw4⟩
    have hBs := hk.size.trans hAs
    have b4 := (hk.ev 4 rfl).trans h4
    have Hw4 := Lib.hid hw4
    obtain ⟨hown, hB, hh⟩ := hw4
    have hsz := hB.size
    obtain ⟨O, hO⟩ : ∃ O, O = (H.take k).flatMap wordBytes := ⟨_, rfl⟩
    rw [← hO] at hown
    have hOl : O.length ≤ 32 := by rw [hO, words_length, List.length_take]; omega
    have HO := Lib.hid hO
    obtain ⟨Av, cv, b23, _, _, _, _⟩ := own_form hown
    have Hal : Hid (∀ o, ((wx.drewN 1).alloc o).ownsRow w.heap.size 5 1 (.slice Av O.length cv) O.length (u8s O)) := Lib.hid fun o => by rw [← b23]; exact World.ownsRow.alloc (w := wx.drewN 1) hown o
    have ch := ((blk_cells hh).1 k).trans (show (u32s H).toArray[k]? = some (.int .u32 (H.getD k 0 : Nat)) by
      rw [List.getElem?_toArray, u32s, List.getElem?_map, List.getD_eq_getElem?_getD, List.getElem?_eq_getElem (by omega)]; rfl)
    have Hgo : Hid (∀ v v' wy o, v = B.eval (.tmp 23) → wy.ownsRow w.heap.size 5 1 v' (O.length + 4) (u8s O ++ u8s (wordBytes (H.getD k 0))) → ((wx.drewN 1).alloc o).grownBy wy v.ownBlock → O14 w H (k + 1) v' wy) :=
      Lib.hid fun v v' wy o hv h1 h2 => O14.step (wr := wx.drewN 1) (v := v) HO.out (by omega) (by rw [hv]; exact ⟨Hw4.out.1, ⟨hB.os, hB.tape, hB.output, hB.size, hB.block⟩, hh⟩) h1 h2
    generalize H.getD k 0 = x at *
    have Hwords := Lib.hid (word_u8s x)
    have hb4 := build4
    have hir : (0 : Int) ≤ k := by omega
    have hil : (k : Int) < 8 := by omega
    have m3 : IntKind.i64.wrap ((k : Int) + 1) = (k : Int) + 1 := by rw [IntKind.wrap_i64]; omega
    have hb23 := Lib.hid b23
    clear hO hown hB hh
    with_reducible refine o_list fun OPS => ?_
    iterate 2 (with_reducible refine l_val (v := ?_) (w' := ?_) ?_ ?_; rotate_left 2; (simp only [x_move, x_assign, x_load, x_store, x_bin, x_un, x_conv, x_indexAddr, x_index, x_call, ev_if, ev_const, ev_none, sz_put, hBs, b24, Nat.reduceLT, Nat.reduceEqDiff, if_true, if_false]; go_simp; first | done | rfl | (constructor <;> rfl)))
    with_reducible refine o_nil ⟨?_, ?_⟩
    · (simp only [x_move, x_assign, x_load, x_store, x_bin, x_un, x_conv, x_indexAddr, x_index, x_call, ev_if, ev_const, ev_none, sz_put, hBs, b24, Nat.reduceLT, Nat.reduceEqDiff, if_true, if_false]; first | done | rfl)
    with_reducible refine o_plan [none, none, none, none, none, none, none, none, none, none, none, none, none, none, none, none, none, none, none, none, none, none, none, none, some false, some true, some true] (fun w' => w'.cell? ⟨w.heap.size + 1, k, none⟩ = some (.int .u32 (x : Nat)) ∧ True) (by kernel_rfl) (by kernel_rfl) ?_ ?_
    · exact ⟨ch, trivial⟩
    intro OPS
    simp only [headsOf, tailsOf]
    iterate 24 (with_reducible refine h_val (v := ?_) ?_ ?_; rotate_left; (rintro _ ⟨hc, _⟩; simp only [x_move, x_assign, x_load, x_store, x_bin, x_un, x_conv, x_indexAddr, x_index, x_call, ev_if, ev_const, ev_none, sz_put, hBs, b4, b23, b24, Nat.reduceLT, Nat.reduceEqDiff, if_true, if_false]; go_simp; first | done | rfl | (constructor <;> rfl)))
    with_reducible refine h_nil ?_
    with_reducible refine t_one ?_
    iterate 1 (with_reducible refine l_val (v := ?_) (w' := ?_) ?_ ?_; rotate_left 2; (simp only [x_move, x_assign, x_load, x_store, x_bin, x_un, x_conv, x_indexAddr, x_index, x_call, ev_if, ev_const, ev_none, sz_put, hBs, x_build, hb4, Nat.reduceLT, Nat.reduceEqDiff, if_true, if_false]; go_simp; first | done | rfl | (constructor <;> rfl)))
    refine t_keep ⟨Cells.alloc _ _ _ _ ch, trivial⟩ ?_
    with_reducible refine t_one ?_
    refine wpList_append_own _ rfl (.tmp 303) (.tmp 327) 28 rfl w.heap.size 5 i0 (.int .u8 0) 1 1 Tryd.underlying28 hi0 hz0 hz1 hz2 rfl (by omega) (.slice Av O.length cv) O.length (u8s O) ?_ (Hal.out _) ⟨wx.heap.size, 0, none⟩ 4 4 [.int .u8 ((x : Int) / 16777216 % 256), .int .u8 ((x : Int) / 65536 % 256), .int .u8 ((x : Int) / 256 % 256), .int .u8 ((x : Int) % 256)] ?_ rfl (fun j v hv => World.news_of_block (w := (wx.drewN 1).alloc _) (heap_alloc_new (wx.drewN 1) _) j v hv) (by rw [← Hwords.out]; exact u8s_one _) (by unfold maxLen; omega) (by omega) (by simp; omega) ?_
    · (simp only [x_move, x_assign, x_load, x_store, x_bin, x_un, x_conv, x_indexAddr, x_index, x_call, ev_if, ev_const, ev_none, sz_put, hBs, b23, Nat.reduceLT, Nat.reduceEqDiff, if_true, if_false]; first | done | rfl)
    · (simp only [x_move, x_assign, x_load, x_store, x_bin, x_un, x_conv, x_indexAddr, x_index, x_call, ev_if, ev_const, ev_none, sz_put, hBs, Nat.reduceLT, Nat.reduceEqDiff, if_true, if_false]; first | done | rfl)
    intro v1 wp hown1 hgrow1 _
    rw [← Hwords.out] at hown1
    have Hfin := Lib.hid (Hgo.out _ _ _ _ hb23.out.symm hown1 hgrow1)
    clear hown1 hgrow1
    refine t_last ?_
    with_reducible refine t_one ?_
    iterate 1 (with_reducible refine l_val (v := ?_) (w' := ?_) ?_ ?_; rotate_left 2; (simp only [x_move, x_assign, x_load, x_store, x_bin, x_un, x_conv, x_indexAddr, x_index, x_call, ev_if, ev_const, ev_none, sz_put, hBs, Nat.reduceLT, Nat.reduceEqDiff, if_true, if_false]; go_simp; first | done | rfl | (constructor <;> rfl)))
    refine t_last ?_
    with_reducible refine t_nil ?_
    with_reducible refine o_nrm ?_
    with_reducible refine o_list fun OPS => ?_
    iterate 3 (with_reducible refine l_val (v := ?_) (w' := ?_) ?_ ?_; rotate_left 2; (simp only [x_move, x_assign, x_load, x_store, x_bin, x_un, x_conv, x_indexAddr, x_index, x_call, ev_if, ev_const, ev_none, sz_put, hBs, b24, Nat.reduceLT, Nat.reduceEqDiff, if_true, if_false]; go_simp; first | done | rfl | (constructor <;> rfl)))
    with_reducible refine o_nil ⟨?_, ?_, ?_⟩
    · with_reducible repeat (first | exact hk | refine Keep.put rfl ?_ | refine Keep.putN ?_)
    · (simp only [x_move, x_assign, x_load, x_store, x_bin, x_un, x_conv, x_indexAddr, x_index, x_call, ev_if, ev_const, ev_none, sz_put, hBs, Nat.reduceLT, Nat.reduceEqDiff, if_true, if_false]; first | done | rfl)
    · simp only [ev_if, sz_put, hBs, Nat.reduceLT, Nat.reduceEqDiff, if_true, if_false]
      exact Hfin.out
  · rintro B wx ⟨hk, b24, hw4⟩
    have hBs := hk.size.trans hAs
    with_reducible refine o_list fun OPS => ?_
    iterate 2 (with_reducible refine l_val (v := ?_) (w' := ?_) ?_ ?_; rotate_left 2; (simp only [x_move, x_assign, x_load, x_store, x_bin, x_un, x_conv, x_indexAddr, x_index, x_call, ev_if, ev_const, ev_none, sz_put, hBs, b24, Nat.reduceLT, Nat.reduceEqDiff, if_true, if_false]; go_simp; first | done | rfl | (constructor <;> rfl)))
    with_reducible refine o_nil ⟨?_, ?_⟩
    · (simp only [x_move, x_assign, x_load, x_store, x_bin, x_un, x_conv, x_indexAddr, x_index, x_call, ev_if, ev_const, ev_none, sz_put, hBs, b24, Nat.reduceLT, Nat.reduceEqDiff, if_true, if_false]; first | done | rfl)
    refine h _ _ ?_ ?_
    · with_reducible repeat (first | exact hk | refine Keep.put rfl ?_ | refine Keep.putN ?_)
    · simp only [ev_if, sz_put, hBs, Nat.reduceLT, Nat.reduceEqDiff, if_true, if_false]
      exact hw4
end Go.Proofs.YtdmladdpbdcpjaaDoor
namespace Go.Proofs.YtdmladdpbdcpjaaDoor
open Go.RowKit

theorem W4.alloc {w wr : World} {wb : Nat} {P blk : List UInt8} {v : Value} {H : List Nat} {k : Nat} (h : W4 w wb P v H blk k wr) (o : Obj) : W4 w wb P v H blk k (wr.alloc o) := by
  obtain ⟨hR, hb, cs, hcs, hs, hrow⟩ := h
  have hsz := hR.size
  exact ⟨⟨hR.below.alloc hR.below.size _, (Below.heap_alloc _ _ _ (lt_of_heap hR.k)).trans hR.k, (Below.heap_alloc _ _ _ (lt_of_heap hR.h)).trans hR.h, hR.m.alloc _⟩, hb, cs, (Below.heap_alloc _ _ _ (lt_of_heap hcs)).trans hcs, hs, hrow⟩
def V6 (w : World) (wb : Nat) (P : List UInt8) (v : Value) (H : List Nat) (blk : List UInt8) (u : Value) (x : List Nat) (wx : World) : Prop := W4 w wb P v H blk 64 wx ∧ Row8 (w.heap.size + 2) u x wx
theorem build8 : ∀ (w : World) (v0 v1 v2 v3 v4 v5 v6 v7 : Int), (Instr.buildSlice 93 8 #[(0, .int .u32 v0), (1, .int .u32 v1), (2, .int .u32 v2), (3, .int .u32 v3), (4, .int .u32 v4), (5, .int .u32 v5), (6, .int .u32 v6), (7, .int .u32 v7)]).run Tryd.prog w = .ok (.slice (some ⟨w.heap.size, 0, none⟩) 8 8) (w.alloc (.cells #[.int .u32 v0, .int .u32 v1, .int .u32 v2, .int .u32 v3, .int .u32 v4, .int .u32 v5, .int .u32 v6, .int .u32 v7] 58)) := fun _ _ _ _ _ _ _ _ _ => by kernel_rfl
def p10 : Nat → Bool := span [(15, 21), (166, 282)]
set_option linter.unusedSimpArgs false in
set_option maxHeartbeats 4000000 in
set_option maxRecDepth 100000 in
theorem b10_law {c : Code} (hc : c = shaB 10) (A : Act) (R : Act → World → Prop) (w wr : World) (wb : Nat) (v : Value) (U blk : List UInt8) (H : List Nat) (hAs : A.tmps.size = 330) (hH : H.length = 8) (hF : Fit H)
    (h3 : A.eval (.tmp 3) = .slice (some ⟨w.heap.size, 0, none⟩) 64 64) (h8 : A.eval (.tmp 8) = .slice (some ⟨wb, 0, none⟩) 64 64) (h16 : A.eval (.tmp 16) = .int .i64 (0 : Nat))
    (hw : V6 w wb U v H blk (A.eval (.tmp 15)) H wr)
    (h : ∀ A' wr', Keep p10 A A' → V6 w wb U v H blk (A'.eval (.tmp 15)) (rounds (sched blk 64) H 64) wr' → R A' wr') : c.wp Tryd.prog (only R) A wr := by
  subst hc
  conv => arg 2; whnf
  with_reducible refine o_for 64 (fun k B wx => Keep p10 A B ∧ B.eval (.tmp 16) = .int .i64 (k : Nat) ∧ V6 w wb U v H blk (B.eval (.tmp 15)) (rounds (sched blk 64) H k) wx) ⟨Keep.refl _ _, h16, ?_⟩ ?_ ?_
  · exact hw
  · rintro k B wx hi ⟨hk, b16, hw4, vb, cv, cs, hvbB, b15, hvb, hx⟩
    have hBs := hk.size.trans hAs
    have b8 := (hk.ev 8 rfl).trans h8
    have b3 := (hk.ev 3 rfl).trans h3
    have Hw4 := Lib.hid hw4
    obtain ⟨hR, hwb, ws, hws, hws8, hrow⟩ := hw4
    have rk := ((blk_cells hR.k).1 k).trans (u32s_at (by show k < 64; omega))
    have rw' := ((blk_cells hws).1 k).trans (hrow k hi)
    have f8 := rounds_fit (sched blk 64) hF k
    have hst : rounds (sched blk 64) H (k + 1) = roundW (rounds (sched blk 64) H k) (shaK.getD k 0) ((sched blk 64).getD k 0) := rfl
    obtain ⟨x0, x1, x2, x3, x4, x5, x6, x7, he⟩ := eight (rounds_length (sched blk 64) H hH k)
    rw [he] at hst f8 hx
    have cx := (blk_cells hvb).1
    have c0 := (cx 0).trans (hx 0 (by omega))
    have y0 : x0 < 4294967296 := f8 _ (by simp)
    have c1 := (cx 1).trans (hx 1 (by omega))
    have y1 : x1 < 4294967296 := f8 _ (by simp)
    have c2 := (cx 2).trans (hx 2 (by omega))
    have y2 : x2 < 4294967296 := f8 _ (by simp)
    have c3 := (cx 3).trans (hx 3 (by omega))
    have y3 : x3 < 4294967296 := f8 _ (by simp)
    have c4 := (cx 4).trans (hx 4 (by omega))
    have y4 : x4 < 4294967296 := f8 _ (by simp)
    have c5 := (cx 5).trans (hx 5 (by omega))
    have y5 : x5 < 4294967296 := f8 _ (by simp)
    have c6 := (cx 6).trans (hx 6 (by omega))
    have y6 : x6 < 4294967296 := f8 _ (by simp)
    have c7 := (cx 7).trans (hx 7 (by omega))
    have y7 : x7 < 4294967296 := f8 _ (by simp)
    simp only [List.getD_cons_zero, List.getD_cons_succ] at c0 c1 c2 c3 c4 c5 c6 c7
    generalize shaK.getD k 0 = kk at *
    generalize (sched blk 64).getD k 0 = ww at *
    have Hst := Lib.hid hst
    have B1 := big1_int y4
    have B0 := big0_int y0
    have C1 := chose_int y4 y5 y6
    have M1 := most_int y0 y1 y2
    obtain ⟨b1, hb1⟩ : ∃ x, x = big1 x4 := ⟨_, rfl⟩
    obtain ⟨b0, hb0⟩ : ∃ x, x = big0 x0 := ⟨_, rfl⟩
    obtain ⟨ch, hch⟩ : ∃ x, x = chose x4 x5 x6 := ⟨_, rfl⟩
    obtain ⟨mo, hmo⟩ : ∃ x, x = most x0 x1 x2 := ⟨_, rfl⟩
    rw [← hb1] at B1
    rw [← hb0] at B0
    rw [← hch] at C1
    rw [← hmo] at M1
    have T1 := turn_c x4 6 y4 (by omega) (by omega)
    have T2 := turn_c x4 11 y4 (by omega) (by omega)
    have T3 := turn_c x4 25 y4 (by omega) (by omega)
    have T4 := turn_c x0 2 y0 (by omega) (by omega)
    have T5 := turn_c x0 13 y0 (by omega) (by omega)
    have T6 := turn_c x0 22 y0 (by omega) (by omega)
    have S1 := add32_int x7 b1
    have S2 := add32_int (add32 x7 b1) ch
    have S3 := add32_int (add32 (add32 x7 b1) ch) kk
    have S4 := add32_int (add32 (add32 (add32 x7 b1) ch) kk) ww
    obtain ⟨t1, ht1⟩ : ∃ x, x = add32 (add32 (add32 (add32 x7 b1) ch) kk) ww := ⟨_, rfl⟩
    rw [← ht1] at S4
    have S5 := add32_int t1 b0
    have S6 := add32_int (add32 t1 b0) mo
    have S7 := add32_int x3 t1
    have Hg := Lib.hid (show rounds (sched blk 64) H (k + 1) = [add32 (add32 t1 b0) mo, x0, x1, x2, add32 x3 t1, x4, x5, x6] by rw [hst, ht1, hb1, hb0, hch, hmo]; rfl)
    have hir : (0 : Int) ≤ k := by omega
    have hil : (k : Int) < 64 := by omega
    have m3 : IntKind.i64.wrap ((k : Int) + 1) = (k : Int) + 1 := by rw [IntKind.wrap_i64]; omega
    have hb8 := build8
    have hsg : (if IntKind.u32.signed = true then (-1 : Int) else IntKind.u32.max) = IntKind.u32.max := rfl
    clear hb1 hb0 hch hmo ht1 hst he hx cx f8 hR hws hws8 hrow hvb y0 y1 y2 y3 y4 y5 y6 y7
    with_reducible refine o_list fun OPS => ?_
    iterate 2 (with_reducible refine l_val (v := ?_) (w' := ?_) ?_ ?_; rotate_left 2; (simp only [x_move, x_assign, x_load, x_store, x_bin, x_un, x_conv, x_indexAddr, x_index, x_call, ev_if, ev_const, ev_none, sz_put, hBs, b16, Nat.reduceLT, Nat.reduceEqDiff, if_true, if_false]; go_simp; first | done | rfl | (constructor <;> rfl)))
    with_reducible refine o_nil ⟨?_, ?_⟩
    · (simp only [x_move, x_assign, x_load, x_store, x_bin, x_un, x_conv, x_indexAddr, x_index, x_call, ev_if, ev_const, ev_none, sz_put, hBs, b16, Nat.reduceLT, Nat.reduceEqDiff, if_true, if_false]; first | done | rfl)
    with_reducible refine o_seq ?_
    with_reducible refine region_quiet (by kernel_rfl) (by kernel_rfl) ?_
    intro OPS
    iterate 3 (with_reducible refine q_val (v := ?_) ?_ ?_; rotate_left; (rintro _ ⟨_, rfl⟩; simp only [x_move, x_assign, x_load, x_store, x_bin, x_un, x_conv, x_indexAddr, x_index, x_call, ev_if, ev_const, ev_none, sz_put, hBs, b15, Nat.reduceLT, Nat.reduceEqDiff, if_true, if_false]; go_simp; first | done | rfl | (constructor <;> rfl)))
    with_reducible refine q_call (v := .int .u32 (rotr x4 6 : Nat)) (f := 66) (args := #[.int .u32 x4, .int .i64 (6 : Nat)]) ?_ (T1 _) ?_
    · (rintro _ ⟨_, rfl⟩; simp only [x_call, ev_if, ev_const, sz_put, hBs, Nat.reduceLT, Nat.reduceEqDiff, if_true, if_false]; go_simp; first | done | rfl)
    iterate 3 (with_reducible refine q_val (v := ?_) ?_ ?_; rotate_left; (rintro _ ⟨_, rfl⟩; simp only [x_move, x_assign, x_load, x_store, x_bin, x_un, x_conv, x_indexAddr, x_index, x_call, ev_if, ev_const, ev_none, sz_put, hBs, b15, Nat.reduceLT, Nat.reduceEqDiff, if_true, if_false]; go_simp; first | done | rfl | (constructor <;> rfl)))
    with_reducible refine q_call (v := .int .u32 (rotr x4 11 : Nat)) (f := 66) (args := #[.int .u32 x4, .int .i64 (11 : Nat)]) ?_ (T2 _) ?_
    · (rintro _ ⟨_, rfl⟩; simp only [x_call, ev_if, ev_const, sz_put, hBs, Nat.reduceLT, Nat.reduceEqDiff, if_true, if_false]; go_simp; first | done | rfl)
    iterate 4 (with_reducible refine q_val (v := ?_) ?_ ?_; rotate_left; (rintro _ ⟨_, rfl⟩; simp only [x_move, x_assign, x_load, x_store, x_bin, x_un, x_conv, x_indexAddr, x_index, x_call, ev_if, ev_const, ev_none, sz_put, hBs, b15, Nat.reduceLT, Nat.reduceEqDiff, if_true, if_false]; go_simp; first | done | rfl | (constructor <;> rfl)))
    with_reducible refine q_call (v := .int .u32 (rotr x4 25 : Nat)) (f := 66) (args := #[.int .u32 x4, .int .i64 (25 : Nat)]) ?_ (T3 _) ?_
    · (rintro _ ⟨_, rfl⟩; simp only [x_call, ev_if, ev_const, sz_put, hBs, Nat.reduceLT, Nat.reduceEqDiff, if_true, if_false]; go_simp; first | done | rfl)
    iterate 2 (with_reducible refine q_val (v := ?_) ?_ ?_; rotate_left; (rintro _ ⟨_, rfl⟩; simp only [x_move, x_assign, x_load, x_store, x_bin, x_un, x_conv, x_indexAddr, x_index, x_call, ev_if, ev_const, ev_none, sz_put, hBs, b15, Nat.reduceLT, Nat.reduceEqDiff, if_true, if_false]; go_simp; first | done | rfl | (constructor <;> rfl)))
    with_reducible refine wpQuiet_nil ?_
    rintro _ ⟨n1, rfl⟩
    with_reducible refine o_nrm ?_
    with_reducible refine rebase (B := B) (span [(17, 17), (166, 183)]) 17 (.int .u32 b1) ?_ ?_ ?_
    · with_reducible repeat (first | exact Keep.refl _ _ | refine Keep.put rfl ?_ | refine Keep.putN ?_)
    · (simp only [x_move, x_assign, x_load, x_store, x_bin, x_un, x_conv, x_indexAddr, x_index, x_call, ev_if, ev_const, ev_none, sz_put, hBs, Nat.reduceLT, Nat.reduceEqDiff, if_true, if_false]; first | done | rfl)
    intro B1 hk1 e17
    have hBs1 := hk1.size.trans hBs
    replace b15 := (hk1.ev 15 rfl).trans b15
    replace b16 := (hk1.ev 16 rfl).trans b16
    replace b8 := (hk1.ev 8 rfl).trans b8
    replace b3 := (hk1.ev 3 rfl).trans b3
    with_reducible refine o_seq ?_
    with_reducible refine o_still (by kernel_rfl) (by kernel_rfl) ?_
    intro OPS
    iterate 17 (with_reducible refine s_val (v := ?_) ?_ ?_; rotate_left; (simp only [x_move, x_assign, x_load, x_store, x_bin, x_un, x_conv, x_indexAddr, x_index, x_call, ev_if, ev_const, ev_none, sz_put, hBs1, b15, Nat.reduceLT, Nat.reduceEqDiff, if_true, if_false]; go_simp; first | done | rfl | (constructor <;> rfl)))
    with_reducible refine wpStill_nil ?_
    with_reducible refine o_nrm ?_
    with_reducible refine rebase (B := B1) (span [(18, 18), (184, 199)]) 18 (.int .u32 ch) ?_ ?_ ?_
    · with_reducible repeat (first | exact Keep.refl _ _ | refine Keep.put rfl ?_ | refine Keep.putN ?_)
    · (simp only [x_move, x_assign, x_load, x_store, x_bin, x_un, x_conv, x_indexAddr, x_index, x_call, ev_if, ev_const, ev_none, sz_put, hBs1, Nat.reduceLT, Nat.reduceEqDiff, if_true, if_false]; first | done | rfl)
    intro B2 hk2 e18
    have hBs2 := hk2.size.trans hBs1
    replace b15 := (hk2.ev 15 rfl).trans b15
    replace b16 := (hk2.ev 16 rfl).trans b16
    replace b8 := (hk2.ev 8 rfl).trans b8
    replace b3 := (hk2.ev 3 rfl).trans b3
    replace e17 := (hk2.ev 17 rfl).trans e17
    with_reducible refine o_seq ?_
    with_reducible refine o_still (by kernel_rfl) (by kernel_rfl) ?_
    intro OPS
    iterate 18 (with_reducible refine s_val (v := ?_) ?_ ?_; rotate_left; (simp only [x_move, x_assign, x_load, x_store, x_bin, x_un, x_conv, x_indexAddr, x_index, x_call, ev_if, ev_const, ev_none, sz_put, hBs2, b15, b16, b8, b3, e17, e18, Nat.reduceLT, Nat.reduceEqDiff, if_true, if_false]; go_simp; first | done | rfl | (constructor <;> rfl)))
    with_reducible refine wpStill_nil ?_
    with_reducible refine o_nrm ?_
    with_reducible refine rebase (B := B2) (span [(19, 19), (200, 216)]) 19 (.int .u32 t1) ?_ ?_ ?_
    · with_reducible repeat (first | exact Keep.refl _ _ | refine Keep.put rfl ?_ | refine Keep.putN ?_)
    · (simp only [x_move, x_assign, x_load, x_store, x_bin, x_un, x_conv, x_indexAddr, x_index, x_call, ev_if, ev_const, ev_none, sz_put, hBs2, Nat.reduceLT, Nat.reduceEqDiff, if_true, if_false]; first | done | rfl)
    intro B3 hk3 e19
    have hBs3 := hk3.size.trans hBs2
    replace b15 := (hk3.ev 15 rfl).trans b15
    replace b16 := (hk3.ev 16 rfl).trans b16
    with_reducible refine o_seq ?_
    with_reducible refine region_quiet (by kernel_rfl) (by kernel_rfl) ?_
    intro OPS
    iterate 3 (with_reducible refine q_val (v := ?_) ?_ ?_; rotate_left; (rintro _ ⟨_, rfl⟩; simp only [x_move, x_assign, x_load, x_store, x_bin, x_un, x_conv, x_indexAddr, x_index, x_call, ev_if, ev_const, ev_none, sz_put, hBs3, b15, Nat.reduceLT, Nat.reduceEqDiff, if_true, if_false]; go_simp; first | done | rfl | (constructor <;> rfl)))
    with_reducible refine q_call (v := .int .u32 (rotr x0 2 : Nat)) (f := 66) (args := #[.int .u32 x0, .int .i64 (2 : Nat)]) ?_ (T4 _) ?_
    · (rintro _ ⟨_, rfl⟩; simp only [x_call, ev_if, ev_const, sz_put, hBs3, Nat.reduceLT, Nat.reduceEqDiff, if_true, if_false]; go_simp; first | done | rfl)
    iterate 3 (with_reducible refine q_val (v := ?_) ?_ ?_; rotate_left; (rintro _ ⟨_, rfl⟩; simp only [x_move, x_assign, x_load, x_store, x_bin, x_un, x_conv, x_indexAddr, x_index, x_call, ev_if, ev_const, ev_none, sz_put, hBs3, b15, Nat.reduceLT, Nat.reduceEqDiff, if_true, if_false]; go_simp; first | done | rfl | (constructor <;> rfl)))
    with_reducible refine q_call (v := .int .u32 (rotr x0 13 : Nat)) (f := 66) (args := #[.int .u32 x0, .int .i64 (13 : Nat)]) ?_ (T5 _) ?_
    · (rintro _ ⟨_, rfl⟩; simp only [x_call, ev_if, ev_const, sz_put, hBs3, Nat.reduceLT, Nat.reduceEqDiff, if_true, if_false]; go_simp; first | done | rfl)
    iterate 4 (with_reducible refine q_val (v := ?_) ?_ ?_; rotate_left; (rintro _ ⟨_, rfl⟩; simp only [x_move, x_assign, x_load, x_store, x_bin, x_un, x_conv, x_indexAddr, x_index, x_call, ev_if, ev_const, ev_none, sz_put, hBs3, b15, Nat.reduceLT, Nat.reduceEqDiff, if_true, if_false]; go_simp; first | done | rfl | (constructor <;> rfl)))
    with_reducible refine q_call (v := .int .u32 (rotr x0 22 : Nat)) (f := 66) (args := #[.int .u32 x0, .int .i64 (22 : Nat)]) ?_ (T6 _) ?_
    · (rintro _ ⟨_, rfl⟩; simp only [x_call, ev_if, ev_const, sz_put, hBs3, Nat.reduceLT, Nat.reduceEqDiff, if_true, if_false]; go_simp; first | done | rfl)
    iterate 2 (with_reducible refine q_val (v := ?_) ?_ ?_; rotate_left; (rintro _ ⟨_, rfl⟩; simp only [x_move, x_assign, x_load, x_store, x_bin, x_un, x_conv, x_indexAddr, x_index, x_call, ev_if, ev_const, ev_none, sz_put, hBs3, b15, Nat.reduceLT, Nat.reduceEqDiff, if_true, if_false]; go_simp; first | done | rfl | (constructor <;> rfl)))
    with_reducible refine wpQuiet_nil ?_
    rintro _ ⟨n2, rfl⟩
    with_reducible refine o_nrm ?_
    with_reducible refine rebase (B := B3) (span [(20, 20), (217, 230)]) 20 (.int .u32 b0) ?_ ?_ ?_
    · with_reducible repeat (first | exact Keep.refl _ _ | refine Keep.put rfl ?_ | refine Keep.putN ?_)
    · (simp only [x_move, x_assign, x_load, x_store, x_bin, x_un, x_conv, x_indexAddr, x_index, x_call, ev_if, ev_const, ev_none, sz_put, hBs3, Nat.reduceLT, Nat.reduceEqDiff, if_true, if_false]; first | done | rfl)
    intro B4 hk4 e20
    have hBs4 := hk4.size.trans hBs3
    replace b15 := (hk4.ev 15 rfl).trans b15
    replace b16 := (hk4.ev 16 rfl).trans b16
    replace e19 := (hk4.ev 19 rfl).trans e19
    with_reducible refine o_seq ?_
    with_reducible refine o_still (by kernel_rfl) (by kernel_rfl) ?_
    intro OPS
    iterate 24 (with_reducible refine s_val (v := ?_) ?_ ?_; rotate_left; (simp only [x_move, x_assign, x_load, x_store, x_bin, x_un, x_conv, x_indexAddr, x_index, x_call, ev_if, ev_const, ev_none, sz_put, hBs4, b15, Nat.reduceLT, Nat.reduceEqDiff, if_true, if_false]; go_simp; first | done | rfl | (constructor <;> rfl)))
    with_reducible refine wpStill_nil ?_
    with_reducible refine o_nrm ?_
    with_reducible refine rebase (B := B4) (span [(21, 21), (231, 253)]) 21 (.int .u32 mo) ?_ ?_ ?_
    · with_reducible repeat (first | exact Keep.refl _ _ | refine Keep.put rfl ?_ | refine Keep.putN ?_)
    · (simp only [x_move, x_assign, x_load, x_store, x_bin, x_un, x_conv, x_indexAddr, x_index, x_call, ev_if, ev_const, ev_none, sz_put, hBs4, Nat.reduceLT, Nat.reduceEqDiff, if_true, if_false]; first | done | rfl)
    intro B5 hk5 e21
    have hBs5 := hk5.size.trans hBs4
    replace b15 := (hk5.ev 15 rfl).trans b15
    replace b16 := (hk5.ev 16 rfl).trans b16
    replace e19 := (hk5.ev 19 rfl).trans e19
    replace e20 := (hk5.ev 20 rfl).trans e20
    with_reducible refine region_still_tail 28 (by kernel_rfl) (by kernel_rfl) ?_
    intro OPS
    simp only [List.take_succ_cons, List.take_zero, List.drop_succ_cons, List.drop_zero]
    iterate 28 (with_reducible refine s_val (v := ?_) ?_ ?_; rotate_left; (simp only [x_move, x_assign, x_load, x_store, x_bin, x_un, x_conv, x_indexAddr, x_index, x_call, ev_if, ev_const, ev_none, sz_put, hBs5, b15, e19, e20, e21, Nat.reduceLT, Nat.reduceEqDiff, if_true, if_false]; go_simp; first | done | rfl | (constructor <;> rfl)))
    with_reducible refine wpStill_nil ?_
    iterate 1 (with_reducible refine l_val (v := ?_) (w' := ?_) ?_ ?_; rotate_left 2; (simp only [x_move, x_assign, x_load, x_store, x_bin, x_un, x_conv, x_indexAddr, x_index, x_call, ev_if, ev_const, ev_none, sz_put, hBs5, x_build, hb8, Nat.reduceLT, Nat.reduceEqDiff, if_true, if_false]; go_simp; first | done | rfl | (constructor <;> rfl)))
    iterate 1 (with_reducible refine l_val (v := ?_) (w' := ?_) ?_ ?_; rotate_left 2; (simp only [x_move, x_assign, x_load, x_store, x_bin, x_un, x_conv, x_indexAddr, x_index, x_call, ev_if, ev_const, ev_none, sz_put, hBs5, Nat.reduceLT, Nat.reduceEqDiff, if_true, if_false]; go_simp; first | done | rfl | (constructor <;> rfl)))
    with_reducible refine o_nil ?_
    with_reducible refine o_list fun OPS => ?_
    iterate 3 (with_reducible refine l_val (v := ?_) (w' := ?_) ?_ ?_; rotate_left 2; (simp only [x_move, x_assign, x_load, x_store, x_bin, x_un, x_conv, x_indexAddr, x_index, x_call, ev_if, ev_const, ev_none, sz_put, hBs5, b16, Nat.reduceLT, Nat.reduceEqDiff, if_true, if_false]; go_simp; first | done | rfl | (constructor <;> rfl)))
    with_reducible refine o_nil ⟨?_, ?_, ?_⟩
    · refine (((((hk.trans (hk1.mono ?_)).trans (hk2.mono ?_)).trans (hk3.mono ?_)).trans (hk4.mono ?_)).trans (hk5.mono ?_)).trans (?_ : Keep p10 B5 _)
      rotate_right; all_goals first | (intro j hj; simp [p10, span] at hj ⊢; omega) | skip
      with_reducible repeat (first | exact Keep.refl _ _ | refine Keep.put rfl ?_ | refine Keep.putN ?_)
    · (simp only [x_move, x_assign, x_load, x_store, x_bin, x_un, x_conv, x_indexAddr, x_index, x_call, ev_if, ev_const, ev_none, sz_put, hBs5, Nat.reduceLT, Nat.reduceEqDiff, if_true, if_false]; first | done | rfl)
    · simp only [ev_if, sz_put, hBs5, Nat.reduceLT, Nat.reduceEqDiff, if_true, if_false]
      rw [Hg.out]
      refine ⟨(Hw4.out.drewN _).alloc _, wx.heap.size, 8, _, Hw4.out.1.size, rfl, heap_alloc_new (wx.drewN _) _, fun j hj => ?_⟩
      rcases (by omega : j = 0 ∨ j = 1 ∨ j = 2 ∨ j = 3 ∨ j = 4 ∨ j = 5 ∨ j = 6 ∨ j = 7) with rfl | rfl | rfl | rfl | rfl | rfl | rfl | rfl
      all_goals rfl
  · rintro B wx ⟨hk, b16, hw6⟩
    have hBs := hk.size.trans hAs
    with_reducible refine o_list fun OPS => ?_
    iterate 2 (with_reducible refine l_val (v := ?_) (w' := ?_) ?_ ?_; rotate_left 2; (simp only [x_move, x_assign, x_load, x_store, x_bin, x_un, x_conv, x_indexAddr, x_index, x_call, ev_if, ev_const, ev_none, sz_put, hBs, b16, Nat.reduceLT, Nat.reduceEqDiff, if_true, if_false]; go_simp; first | done | rfl | (constructor <;> rfl)))
    with_reducible refine o_nil ⟨?_, ?_⟩
    · (simp only [x_move, x_assign, x_load, x_store, x_bin, x_un, x_conv, x_indexAddr, x_index, x_call, ev_if, ev_const, ev_none, sz_put, hBs, b16, Nat.reduceLT, Nat.reduceEqDiff, if_true, if_false]; first | done | rfl)
    refine h _ _ ?_ ?_
    · with_reducible repeat (first | exact hk | refine Keep.put rfl ?_ | refine Keep.putN ?_)
    · simp only [ev_if, sz_put, hBs, Nat.reduceLT, Nat.reduceEqDiff, if_false]
      exact hw6
end Go.Proofs.YtdmladdpbdcpjaaDoor
namespace Go.Proofs.YtdmladdpbdcpjaaDoor
open Go.RowKit

theorem infoU32' : (Tryd.prog.info? 58).map (fun i => (i.zero, i.size, i.bytes)) = some (some (.int .u32 0), 1, 4) := by kernel_rfl
theorem build0 : ∀ w : World, (Instr.buildSlice 93 0 #[]).run Tryd.prog w = .ok (.slice (some ⟨w.heap.size, 0, none⟩) 0 0) (w.alloc (.cells #[] 58)) := fun _ => by kernel_rfl
theorem W4.below {w wr wx : World} {wb : Nat} {P blk : List UInt8} {v : Value} {H : List Nat} {k : Nat} (h : W4 w wb P v H blk k wr) (hb : Below wr.heap.size wr wx) : W4 w wb P v H blk k wx := by
  obtain ⟨hR, hwb, cs, hcs, hs, hrow⟩ := h
  exact ⟨⟨hR.below.trans (hb.mono hR.below.size), (hb.block _ (lt_of_heap hR.k)).trans hR.k, (hb.block _ (lt_of_heap hR.h)).trans hR.h, own_keep hR.m fun g c hg => (hb.block g (lt_of_heap hg)).trans hg⟩, hwb, cs, (hb.block _ (lt_of_heap hcs)).trans hcs, hs, hrow⟩
theorem W4.fresh {w wr : World} {wb : Nat} {P blk blk' : List UInt8} {v : Value} {H : List Nat} {k : Nat} (h : W4 w wb P v H blk k wr) : W4 w wb P v H blk' 0 wr := by
  obtain ⟨hR, hwb, cs, hcs, hs, _⟩ := h
  exact ⟨hR, hwb, cs, hcs, hs, fun j hj => by omega⟩
theorem u32s_at8 {H : List Nat} {wx : World} {t : TypeId} {g : Nat} (h : wx.heap[g]? = some (.cells (u32s H).toArray t (0, 0))) : ∀ j u, (u32s H)[j]? = some u → wx.cell? ((⟨g, 0, none⟩ : Addr).add j) = some u := by
  intro j u hu
  rw [Addr.add_lit, Nat.zero_add]
  exact ((blk_cells h).1 j).trans (by rw [List.getElem?_toArray]; exact hu)
theorem u32s_cells (l : List Nat) : ∀ u ∈ u32s l, u.oneCell' = true := by
  intro u hu
  simp only [u32s, List.mem_map] at hu
  obtain ⟨x, _, rfl⟩ := hu
  rfl
theorem row8_of_own {w : World} {base : Nat} {v : Value} {H : List Nat} (hH : H.length = 8) (h : w.ownsRow base 58 1 v 8 (u32s H)) : Row8 base v H w := by
  obtain ⟨_, ⟨_, h0⟩ | ⟨g, cap, cur, rfl, hg, hh, hn, hm, hs, htk⟩⟩ := h
  · omega
  · refine ⟨g, cap, cur, hg, rfl, hh, fun j hj => ?_⟩
    have : (u32s H)[j]? = some (.int .u32 (H.getD j 0 : Nat)) := by
      rw [u32s, List.getElem?_map, List.getD_eq_getElem?_getD, List.getElem?_eq_getElem (by omega)]; rfl
    rw [← htk, List.getElem?_take_of_lt (by omega)] at this
    rw [← this, Array.getElem?_toList]
def pB : Nat → Bool := span [(9, 22), (55, 298)]
set_option linter.unusedSimpArgs false in
set_option maxHeartbeats 4000000 in
set_option maxRecDepth 100000 in
theorem b4_law {c : Code} (hc : c = shaB 4) (A : Act) (R : Act → World → Prop) (w wr : World) (wb m cv : Nat) (Av : Option Addr) (U : List UInt8) (hAs : A.tmps.size = 330) (hU : U.length = 64 * m) (hUl : U.length ≤ 1048576)
    (h3 : A.eval (.tmp 3) = .slice (some ⟨w.heap.size, 0, none⟩) 64 64) (h4 : A.eval (.tmp 4) = .slice (some ⟨w.heap.size + 1, 0, none⟩) 8 8) (h5 : A.eval (.tmp 5) = .slice Av U.length cv)
    (h8 : A.eval (.tmp 8) = .slice (some ⟨wb, 0, none⟩) 64 64) (h9 : A.eval (.tmp 9) = .int .i64 (0 : Nat))
    (hw : W4 w wb U (.slice Av U.length cv) shaH [] 0 wr)
    (h : ∀ A' wr', Keep pB A A' → W4 w wb U (.slice Av U.length cv) (blocks shaH U m) [] 0 wr' → R A' wr') : c.wp Tryd.prog (only R) A wr := by
  obtain ⟨i0, hi0, hz0, hz1, hz2⟩ := info_parts infoU32'
  subst hc
  conv => arg 2; whnf
  with_reducible refine o_for m (fun j B wx => Keep pB A B ∧ B.eval (.tmp 9) = .int .i64 ((64 * j : Nat) : Int) ∧ W4 w wb U (.slice Av U.length cv) (blocks shaH U j) [] 0 wx) ⟨Keep.refl _ _, h9, ?_⟩ ?_ ?_
  · exact hw
  · rintro j B wx hi ⟨hk, b9, hw4⟩
    have hBs := hk.size.trans hAs
    have b5 := (hk.ev 5 rfl).trans h5
    have b8 := (hk.ev 8 rfl).trans h8
    have Hw4 := Lib.hid hw4
    clear hw4
    obtain ⟨a, ha⟩ : ∃ a, a = 64 * j := ⟨_, rfl⟩
    rw [← ha] at b9
    have Ha := Lib.hid ha
    obtain ⟨H, hH⟩ : ∃ H, H = blocks shaH U j := ⟨_, rfl⟩
    have hH8 : H.length = 8 := by rw [hH]; exact blocks_length _ _ rfl _
    have hHf : Fit H := by rw [hH]; exact blocks_fit shaH_fit _ _
    obtain ⟨blk, hblk⟩ : ∃ blk, blk = (U.drop a).take 64 := ⟨_, rfl⟩
    have hnext : blocks shaH U (j + 1) = compress H blk := by rw [blocks, ← hH, hblk, ← ha]
    have Hnext := Lib.hid hnext
    have HU := Lib.hid hU
    have HUl := Lib.hid hUl
    have hal : a + 64 ≤ U.length := by omega
    have HH8 := Lib.hid hH8
    rw [← hH] at Hw4
    have hlt : a < U.length := by omega
    have hltI : (a : Int) < U.length := by omega
    have hge : (0 : Int) ≤ a := by omega
    have m3 : IntKind.i64.wrap ((a : Int) + 64) = (a : Int) + 64 := by rw [IntKind.wrap_i64]; omega
    clear hnext ha hH hU hUl hH8 hi
    with_reducible refine o_list fun OPS => ?_
    iterate 4 (with_reducible refine l_val (v := ?_) (w' := ?_) ?_ ?_; rotate_left 2; (simp only [x_move, x_assign, x_load, x_store, x_bin, x_un, x_conv, x_indexAddr, x_index, x_call, ev_if, ev_const, ev_none, sz_put, hBs, b9, b5, Nat.reduceLT, Nat.reduceEqDiff, if_true, if_false]; go_simp; first | done | rfl | (constructor <;> rfl)))
    with_reducible refine o_nil ⟨?_, ?_⟩
    · (simp only [x_move, x_assign, x_load, x_store, x_bin, x_un, x_conv, x_indexAddr, x_index, x_call, ev_if, ev_const, ev_none, sz_put, hBs, b9, b5, Nat.reduceLT, Nat.reduceEqDiff, if_true, if_false]; first | done | rfl)
    with_reducible repeat refine o_seq ?_
    with_reducible refine o_list fun OPS => ?_
    iterate 1 (with_reducible refine l_val (v := ?_) (w' := ?_) ?_ ?_; rotate_left 2; (simp only [x_move, x_assign, x_load, x_store, x_bin, x_un, x_conv, x_indexAddr, x_index, x_call, ev_if, ev_const, ev_none, sz_put, hBs, Nat.reduceLT, Nat.reduceEqDiff, if_true, if_false]; go_simp; first | done | rfl | (constructor <;> rfl)))
    with_reducible refine o_nil ?_
    refine b6_law (by kernel_rfl) _ _ w wx wb a cv Av U blk H ?_ ?_ ?_ ?_ ?_ Hw4.out.fresh HUl.out hal hblk ?_
    · (simp only [x_move, x_assign, x_load, x_store, x_bin, x_un, x_conv, x_indexAddr, x_index, x_call, ev_if, ev_const, ev_none, sz_put, hBs, Nat.reduceLT, Nat.reduceEqDiff, if_true, if_false]; first | done | rfl)
    · (simp only [x_move, x_assign, x_load, x_store, x_bin, x_un, x_conv, x_indexAddr, x_index, x_call, ev_if, ev_const, ev_none, sz_put, hBs, b5, Nat.reduceLT, Nat.reduceEqDiff, if_true, if_false]; first | done | rfl)
    · (simp only [x_move, x_assign, x_load, x_store, x_bin, x_un, x_conv, x_indexAddr, x_index, x_call, ev_if, ev_const, ev_none, sz_put, hBs, b8, Nat.reduceLT, Nat.reduceEqDiff, if_true, if_false]; first | done | rfl)
    · (simp only [x_move, x_assign, x_load, x_store, x_bin, x_un, x_conv, x_indexAddr, x_index, x_call, ev_if, ev_const, ev_none, sz_put, hBs, b9, Nat.reduceLT, Nat.reduceEqDiff, if_true, if_false]; first | done | rfl)
    · (simp only [x_move, x_assign, x_load, x_store, x_bin, x_un, x_conv, x_indexAddr, x_index, x_call, ev_if, ev_const, ev_none, sz_put, hBs, Nat.reduceLT, Nat.reduceEqDiff, if_true, if_false]; first | done | rfl)
    intro B6 w6 hk6 hw6
    have hB6k := (((show Keep pB B _ by with_reducible repeat (first | exact Keep.refl _ _ | refine Keep.put rfl ?_ | refine Keep.putN ?_))).trans (hk6.mono (by intro j hj; simp [p4, pB, span] at hj ⊢; omega)))
    have hs6 := hB6k.size.trans hBs
    have c8 := (hk6.ev 8 rfl).trans (show _ = Value.slice (some ⟨wb, 0, none⟩) 64 64 by (simp only [x_move, x_assign, x_load, x_store, x_bin, x_un, x_conv, x_indexAddr, x_index, x_call, ev_if, ev_const, ev_none, sz_put, hBs, b8, Nat.reduceLT, Nat.reduceEqDiff, if_true, if_false]; first | done | rfl))
    with_reducible repeat refine o_seq ?_
    with_reducible refine o_list fun OPS => ?_
    iterate 1 (with_reducible refine l_val (v := ?_) (w' := ?_) ?_ ?_; rotate_left 2; (simp only [x_move, x_assign, x_load, x_store, x_bin, x_un, x_conv, x_indexAddr, x_index, x_call, ev_if, ev_const, ev_none, sz_put, hs6, Nat.reduceLT, Nat.reduceEqDiff, if_true, if_false]; go_simp; first | done | rfl | (constructor <;> rfl)))
    with_reducible refine o_nil ?_
    refine b8_law (by kernel_rfl) _ _ w w6 wb (.slice Av U.length cv) U blk H ?_ ?_ ?_ hw6 ?_
    · (simp only [x_move, x_assign, x_load, x_store, x_bin, x_un, x_conv, x_indexAddr, x_index, x_call, ev_if, ev_const, ev_none, sz_put, hs6, Nat.reduceLT, Nat.reduceEqDiff, if_true, if_false]; first | done | rfl)
    · (simp only [x_move, x_assign, x_load, x_store, x_bin, x_un, x_conv, x_indexAddr, x_index, x_call, ev_if, ev_const, ev_none, sz_put, hs6, c8, Nat.reduceLT, Nat.reduceEqDiff, if_true, if_false]; first | done | rfl)
    · (simp only [x_move, x_assign, x_load, x_store, x_bin, x_un, x_conv, x_indexAddr, x_index, x_call, ev_if, ev_const, ev_none, sz_put, hs6, Nat.reduceLT, Nat.reduceEqDiff, if_true, if_false]; first | done | rfl)
    intro B8 w8 hk8 hw8
    have hB8k := (((show Keep pB B6 _ by with_reducible repeat (first | exact Keep.refl _ _ | refine Keep.put rfl ?_ | refine Keep.putN ?_))).trans (hk8.mono (by intro j hj; simp [p8, pB, span] at hj ⊢; omega)))
    have hs8 := hB8k.size.trans hs6
    have Hw8 := Lib.hid hw8
    have hsz8 := hw8.1.size
    have hown0 : Hid ((w8.alloc (.cells #[] 58)).ownsRow w8.heap.size 58 1 (.slice (some ⟨w8.heap.size, 0, none⟩) 0 0) 0 []) := Lib.hid (World.ownsRow_made w8 #[] 0 (Nat.le_refl _) (by simp) (by simp))
    have hcells := Lib.hid (u32s_at8 ((hw8.alloc (.cells #[] 58)).1.h))
    have d4 := (hB8k.ev 4 rfl).trans ((hB6k.ev 4 rfl).trans ((hk.ev 4 rfl).trans h4))
    have hb0 := build0
    clear hw8 hw6
    with_reducible repeat refine o_seq ?_
    with_reducible refine o_list fun OPS => ?_
    iterate 1 (with_reducible refine l_val (v := ?_) (w' := ?_) ?_ ?_; rotate_left 2; (simp only [x_move, x_assign, x_load, x_store, x_bin, x_un, x_conv, x_indexAddr, x_index, x_call, ev_if, ev_const, ev_none, sz_put, hs8, x_build, hb0, Nat.reduceLT, Nat.reduceEqDiff, if_true, if_false]; go_simp; first | done | rfl | (constructor <;> rfl)))
    iterate 1 (with_reducible refine l_val (v := ?_) (w' := ?_) ?_ ?_; rotate_left 2; (simp only [x_move, x_assign, x_load, x_store, x_bin, x_un, x_conv, x_indexAddr, x_index, x_call, ev_if, ev_const, ev_none, sz_put, hs8, d4, Nat.reduceLT, Nat.reduceEqDiff, if_true, if_false]; go_simp; first | done | rfl | (constructor <;> rfl)))
    refine wpList_append_own _ rfl (.tmp 163) (.tmp 164) 93 rfl w8.heap.size 58 i0 (.int .u32 0) 1 4 Tryd.underlying93 hi0 hz0 hz1 hz2 rfl (by omega) (.slice (some ⟨w8.heap.size, 0, none⟩) 0 0) 0 [] ?_ hown0.out ⟨w.heap.size + 1, 0, none⟩ 8 8 (u32s H) ?_ (by rw [u32s, List.length_map, HH8.out]) hcells.out (u32s_cells H) (by unfold maxLen; omega) (by omega) (by simp) ?_
    · (simp only [x_move, x_assign, x_load, x_store, x_bin, x_un, x_conv, x_indexAddr, x_index, x_call, ev_if, ev_const, ev_none, sz_put, hs8, Nat.reduceLT, Nat.reduceEqDiff, if_true, if_false]; first | done | rfl)
    · (simp only [x_move, x_assign, x_load, x_store, x_bin, x_un, x_conv, x_indexAddr, x_index, x_call, ev_if, ev_const, ev_none, sz_put, hs8, d4, Nat.reduceLT, Nat.reduceEqDiff, if_true, if_false]; first | done | rfl)
    intro v9 w9 hown9 hgrow9 _
    have hbel : Below w8.heap.size w8 w9 := ((Below.refl w8.heap.size w8).alloc (Nat.le_refl _) _).grown hgrow9 (by simp) (by intro k hk; cases hk; exact Nat.le_refl _)
    have Hw9 := Lib.hid (Hw8.out.below hbel)
    have Hr9 : Hid (Row8 (w.heap.size + 2) v9 H w9) := Lib.hid (by
      have := row8_of_own HH8.out (by simpa using hown9)
      obtain ⟨vb, cv', cs, q1, q2⟩ := this
      exact ⟨vb, cv', cs, by omega, q2⟩)
    clear hown9 hgrow9 hbel Hw8 hown0 hcells
    iterate 1 (with_reducible refine l_val (v := ?_) (w' := ?_) ?_ ?_; rotate_left 2; (simp only [x_move, x_assign, x_load, x_store, x_bin, x_un, x_conv, x_indexAddr, x_index, x_call, ev_if, ev_const, ev_none, sz_put, hs8, Nat.reduceLT, Nat.reduceEqDiff, if_true, if_false]; go_simp; first | done | rfl | (constructor <;> rfl)))
    with_reducible refine o_nil ?_
    with_reducible repeat refine o_seq ?_
    with_reducible refine o_list fun OPS => ?_
    iterate 1 (with_reducible refine l_val (v := ?_) (w' := ?_) ?_ ?_; rotate_left 2; (simp only [x_move, x_assign, x_load, x_store, x_bin, x_un, x_conv, x_indexAddr, x_index, x_call, ev_if, ev_const, ev_none, sz_put, hs8, Nat.reduceLT, Nat.reduceEqDiff, if_true, if_false]; go_simp; first | done | rfl | (constructor <;> rfl)))
    with_reducible refine o_nil ?_
    have d3 := (hB8k.ev 3 rfl).trans ((hB6k.ev 3 rfl).trans ((hk.ev 3 rfl).trans h3))
    have d8 := (hk8.ev 8 rfl).trans (show _ = Value.slice (some ⟨wb, 0, none⟩) 64 64 by (simp only [x_move, x_assign, x_load, x_store, x_bin, x_un, x_conv, x_indexAddr, x_index, x_call, ev_if, ev_const, ev_none, sz_put, hs6, c8, Nat.reduceLT, Nat.reduceEqDiff, if_true, if_false]; first | done | rfl))
    refine b10_law (by kernel_rfl) _ _ w w9 wb (.slice Av U.length cv) U blk H ?_ HH8.out hHf ?_ ?_ ?_ ?_ ?_
    · (simp only [x_move, x_assign, x_load, x_store, x_bin, x_un, x_conv, x_indexAddr, x_index, x_call, ev_if, ev_const, ev_none, sz_put, hs8, Nat.reduceLT, Nat.reduceEqDiff, if_true, if_false]; first | done | rfl)
    · (simp only [x_move, x_assign, x_load, x_store, x_bin, x_un, x_conv, x_indexAddr, x_index, x_call, ev_if, ev_const, ev_none, sz_put, hs8, d3, Nat.reduceLT, Nat.reduceEqDiff, if_true, if_false]; first | done | rfl)
    · (simp only [x_move, x_assign, x_load, x_store, x_bin, x_un, x_conv, x_indexAddr, x_index, x_call, ev_if, ev_const, ev_none, sz_put, hs8, d8, Nat.reduceLT, Nat.reduceEqDiff, if_true, if_false]; first | done | rfl)
    · (simp only [x_move, x_assign, x_load, x_store, x_bin, x_un, x_conv, x_indexAddr, x_index, x_call, ev_if, ev_const, ev_none, sz_put, hs8, Nat.reduceLT, Nat.reduceEqDiff, if_true, if_false]; first | done | rfl)
    · refine ⟨Hw9.out, ?_⟩
      have := Hr9.out
      simp only [ev_if, ev_const, sz_put, hs8, Nat.reduceLT, Nat.reduceEqDiff, if_true, if_false]
      exact this
    intro B10 w10 hk10 hw10
    have hB10k := (((show Keep pB B8 _ by with_reducible repeat (first | exact Keep.refl _ _ | refine Keep.put rfl ?_ | refine Keep.putN ?_))).trans (hk10.mono (by intro j hj; simp [p10, pB, span] at hj ⊢; omega)))
    have hs10 := hB10k.size.trans hs8
    have e4 := (hB10k.ev 4 rfl).trans d4
    with_reducible repeat refine o_seq ?_
    with_reducible refine o_list fun OPS => ?_
    iterate 1 (with_reducible refine l_val (v := ?_) (w' := ?_) ?_ ?_; rotate_left 2; (simp only [x_move, x_assign, x_load, x_store, x_bin, x_un, x_conv, x_indexAddr, x_index, x_call, ev_if, ev_const, ev_none, sz_put, hs10, Nat.reduceLT, Nat.reduceEqDiff, if_true, if_false]; go_simp; first | done | rfl | (constructor <;> rfl)))
    with_reducible refine o_nil ?_
    refine b12_law (by kernel_rfl) _ _ w w10 wb 64 (.slice Av U.length cv) U blk H (rounds (sched blk 64) H 64) ?_ HH8.out (rounds_length _ _ HH8.out _) ?_ ?_ hw10.1 ?_ ?_
    · (simp only [x_move, x_assign, x_load, x_store, x_bin, x_un, x_conv, x_indexAddr, x_index, x_call, ev_if, ev_const, ev_none, sz_put, hs10, Nat.reduceLT, Nat.reduceEqDiff, if_true, if_false]; first | done | rfl)
    · (simp only [x_move, x_assign, x_load, x_store, x_bin, x_un, x_conv, x_indexAddr, x_index, x_call, ev_if, ev_const, ev_none, sz_put, hs10, e4, Nat.reduceLT, Nat.reduceEqDiff, if_true, if_false]; first | done | rfl)
    · (simp only [x_move, x_assign, x_load, x_store, x_bin, x_un, x_conv, x_indexAddr, x_index, x_call, ev_if, ev_const, ev_none, sz_put, hs10, Nat.reduceLT, Nat.reduceEqDiff, if_true, if_false]; first | done | rfl)
    · have := hw10.2
      simp only [ev_if, ev_const, sz_put, hs10, Nat.reduceLT, Nat.reduceEqDiff, if_true, if_false]
      exact this
    intro B12 w12 hk12 hw12
    have hB12k := (((show Keep pB B10 _ by with_reducible repeat (first | exact Keep.refl _ _ | refine Keep.put rfl ?_ | refine Keep.putN ?_))).trans (hk12.mono (by intro j hj; simp [p12, pB, span] at hj ⊢; omega)))
    have hs12 := hB12k.size.trans hs10
    have e9 := (hk12.ev 9 rfl).trans (show _ = Value.int .i64 (a : Int) by simp only [ev_if, ev_const, sz_put, hs10, Nat.reduceLT, Nat.reduceEqDiff, if_true, if_false]; refine (hk10.ev 9 rfl).trans ?_; simp only [ev_if, ev_const, sz_put, hs8, Nat.reduceLT, Nat.reduceEqDiff, if_true, if_false]; refine (hk8.ev 9 rfl).trans ?_; simp only [ev_if, ev_const, sz_put, hs6, Nat.reduceLT, Nat.reduceEqDiff, if_true, if_false]; refine (hk6.ev 9 rfl).trans ?_; simp only [ev_if, ev_const, sz_put, hBs, Nat.reduceLT, Nat.reduceEqDiff, if_true, if_false]; exact b9)
    have Hw12 := Lib.hid hw12
    clear hw12 hw10
    with_reducible refine o_list fun OPS => ?_
    iterate 3 (with_reducible refine l_val (v := ?_) (w' := ?_) ?_ ?_; rotate_left 2; (simp only [x_move, x_assign, x_load, x_store, x_bin, x_un, x_conv, x_indexAddr, x_index, x_call, ev_if, ev_const, ev_none, sz_put, hs12, e9, Nat.reduceLT, Nat.reduceEqDiff, if_true, if_false]; go_simp; first | done | rfl | (constructor <;> rfl)))
    with_reducible refine o_nil ⟨?_, ?_, ?_⟩
    · have := ((((hk.trans hB6k).trans hB8k).trans hB10k).trans hB12k)
      with_reducible repeat (first | exact this | refine Keep.put rfl ?_ | refine Keep.putN ?_)
    · simp only [ev_if, ev_const, sz_put, hs12, Nat.reduceLT, Nat.reduceEqDiff, if_true, if_false]
      rw [Ha.out]
      rfl
    · rw [Hnext.out]
      exact Hw12.out.fresh
  · rintro B wx ⟨hk, b9, hw4⟩
    have hBs := hk.size.trans hAs
    have b5 := (hk.ev 5 rfl).trans h5
    have Hw4 := Lib.hid hw4
    clear hw4
    have hnl : ¬ ((64 * m : Nat) : Int) < U.length := by omega
    with_reducible refine o_list fun OPS => ?_
    iterate 4 (with_reducible refine l_val (v := ?_) (w' := ?_) ?_ ?_; rotate_left 2; (simp only [x_move, x_assign, x_load, x_store, x_bin, x_un, x_conv, x_indexAddr, x_index, x_call, ev_if, ev_const, ev_none, sz_put, hBs, b9, b5, Nat.reduceLT, Nat.reduceEqDiff, if_true, if_false]; go_simp; first | done | rfl | (constructor <;> rfl)))
    with_reducible refine o_nil ⟨?_, ?_⟩
    · (simp only [x_move, x_assign, x_load, x_store, x_bin, x_un, x_conv, x_indexAddr, x_index, x_call, ev_if, ev_const, ev_none, sz_put, hBs, b9, b5, Nat.reduceLT, Nat.reduceEqDiff, if_true, if_false]; first | done | rfl)
    refine h _ _ ?_ Hw4.out
    with_reducible repeat (first | exact hk | refine Keep.put rfl ?_ | refine Keep.putN ?_)
end Go.Proofs.YtdmladdpbdcpjaaDoor
namespace Go.Proofs.YtdmladdpbdcpjaaDoor
open Go.RowKit

set_option linter.unusedSimpArgs false

attribute [local go_sem] lt1 lt2 lt3 lt4 lt5 lt6

set_option maxHeartbeats 8000000 in
set_option maxRecDepth 1000000 in
theorem sha_ref (w : World) (b : List UInt8) (A : Option Addr) (c : Nat) (hb : Bs w A c b) (hl : b.length ≤ 1048000) :
    Calls Tryd.prog 34 #[.slice A b.length c] w (BytesPost (sha b) w) := by
  have Hb := Lib.hid hb
  clear hb
  obtain ⟨i0, hi0, hz0, hz1, hz2⟩ := info_parts infoU8
  obtain ⟨KA, hKA⟩ : ∃ x, x = (u32s shaK).toArray := ⟨_, rfl⟩
  have hcon := constants_ref
  rw [← hKA] at hcon
  have HKA := Lib.hid hKA
  clear hKA
  go_enter Tryd.func34, Tryd.ntmps34
  go_wp2_with fail
  refine (hcon _).mono ?_
  rintro e w1 ⟨rfl, hw1⟩
  obtain rfl := hw1.symm
  have Hb0 : Hid (Bs ((w.alloc (.cells KA 58)).alloc (.cells #[.int .u32 1779033703, .int .u32 3144134277, .int .u32 1013904242, .int .u32 2773480762, .int .u32 1359893119, .int .u32 2600822924, .int .u32 528734635, .int .u32 1541459225] 58)) A c b) := Lib.hid (Hb.out.keep ((Cells.alloc _ _).trans (Cells.alloc _ _)))
  go_wp2_with fail
  refine (bytes_any b A c _ (by omega) Hb0.out).mono ?_
  rintro e w2 ⟨v, rfl, hown, hB⟩
  have h0 : w2.heap[w.heap.size]? = some (.cells (u32s shaK).toArray 58 (0, 0)) := by
    rw [hB.block w.heap.size (by simp; omega), Below.heap_alloc _ _ _ (by simp), heap_alloc_new, HKA.out]
  have h1 : w2.heap[w.heap.size + 1]? = some (.cells (u32s shaH).toArray 58 (0, 0)) := by
    rw [hB.block (w.heap.size + 1) (by simp), heap_alloc2, shaH8]
  have hR : ShR w shaH b v w2 := ⟨(((Below.refl _ _).alloc (Nat.le_refl _) _).alloc (by simp) _).trans (hB.mono (by simp; omega)), h0, h1, by simpa using hown⟩
  obtain ⟨Av, cv, rfl, _, _, _, _⟩ := own_form hown
  have HR := Lib.hid hR
  have hs2 := hR.size
  clear hown hB h0 h1 hR
  go_wp2_with (first | (at_builtin; refine wpList_append_own _ rfl _ _ 28 rfl (w.heap.size + 2) 5 i0 (.int .u8 0) 1 1 Tryd.underlying28 hi0 hz0 hz1 hz2 rfl (by omega) (.slice Av b.length cv) b.length (u8s b) rfl (HR.out.m.alloc _) ⟨w2.heap.size, 0, none⟩ 1 1 [.int .u8 128] rfl rfl (cell_one_new _ _ _) (one_cell _) (by unfold maxLen; omega) (by omega) (by simp; omega) ?_))
  intro v1 wp hown1 hgrow1 _
  have Hp1 := Lib.hid (HR.out.push 128 (by decide) hown1 hgrow1)
  obtain ⟨Av1, cv1, rfl, _, _, _, _⟩ := own_form hown1
  clear hown1 hgrow1
  go_wp2_with fail
  go_loopw [5] (fun v wr => ShPad w b v wr) (fun v _ => b.length + 200 - lenOf v)
  case atStart => exact ⟨0, by omega, by simpa using Hp1.out⟩
  case round =>
    obtain ⟨k, hk, hp⟩ := hrel
    obtain ⟨T, hT⟩ : ∃ T, T = b ++ [128] ++ List.replicate k 0 := ⟨_, rfl⟩
    rw [← hT] at hp
    have hlen : T.length = b.length + 1 + k := by rw [hT]; simp; omega
    have hz : zerosFor b.length = (55 + 64 - b.length % 64) % 64 := rfl
    have htm : (T.length : Int).tmod 64 = (T.length : Int) % 64 := Int.tmod_eq_emod_of_nonneg (by omega)
    have Hp := Lib.hid hp
    have HT := Lib.hid hT
    obtain ⟨Av, cv, rfl, _, _, _, _⟩ := own_form hp.m
    have hwr := hp.size
    have h200 : T.length < b.length + 200 := by omega
    clear hp hT
    by_cases hlt : k < zerosFor b.length
    · have hne : ((T.length : Int) % 64 != 56) = true := by rw [bne_iff_ne]; omega
      clear hlen hz htm
      go_wp2_with (first | (at_builtin; refine wpList_append_own _ rfl _ _ 28 rfl (w.heap.size + 2) 5 i0 (.int .u8 0) 1 1 Tryd.underlying28 hi0 hz0 hz1 hz2 rfl (by omega) (.slice Av T.length cv) T.length (u8s T) rfl (Hp.out.m.alloc _) ⟨wr.heap.size, 0, none⟩ 1 1 [.int .u8 0] rfl rfl (cell_one_new _ _ _) (one_cell _) (by unfold maxLen; omega) (by omega) (by simp; omega) ?_))
      intro v1 wp hown1 hgrow1 _
      have Hp1 := Lib.hid (Hp.out.push 0 (by decide) hown1 hgrow1)
      obtain ⟨Av1, cv1, rfl, _, _, _, _⟩ := own_form hown1
      clear hown1 hgrow1
      have Hfin : Hid (ShPad w b (.slice Av1 (T.length + 1) cv1) wp) := Lib.hid ⟨k + 1, by omega, by
        have := Hp1.out
        rw [HT.out, List.append_assoc, ← List.replicate_succ', ← HT.out] at this
        exact this⟩
      go_wp2_with fail
      go_roundw
      case rel => exact Hfin.out
      case measure => simp [lenOf]; omega
    · have hkz : k = zerosFor b.length := by omega
      have heq : ((T.length : Int) % 64 != 56) = false := by rw [bne_eq_false_iff_eq]; omega
      rw [hkz] at HT
      clear hz htm hkz
      have Hl := Lib.hid hlen
      clear hlen
      have Hp' : Hid (ShTail w T b.length (.int .i64 7) (.slice Av T.length cv) wr) := Lib.hid ⟨0, by omega, rfl, by simpa [be64] using Hp.out⟩
      clear Hp
      go_wp2_with fail
      go_loopw [7, 5] (fun iv v wr => ShTail w T b.length iv v wr) (fun iv _ _ => (intOf iv + 1).toNat)
      case atStart => exact Hp'.out
      case round =>
        obtain ⟨k, hk, rfl, hp⟩ := hrel
        obtain ⟨U, hU⟩ : ∃ U, U = T ++ (be64 (8 * b.length)).take k := ⟨_, rfl⟩
        rw [← hU] at hp
        have hUl : U.length = T.length + k := by rw [hU, List.length_append, List.length_take, be64_length]; omega
        have Hp := Lib.hid hp
        have HU := Lib.hid hU
        obtain ⟨Av2, cv2, rfl, _, _, _, _⟩ := own_form hp.m
        have hwr := hp.size
        have h300 : U.length < b.length + 300 := by omega
        clear hp hU hUl
        by_cases hlt : k < 8
        · have hk1 : (0 : Int) ≤ 7 - (k : Int) := by omega
          have hk2 : (0 : Int) ≤ 8 * (7 - (k : Int)) := by omega
          have hk4 : 8 * (7 - (k : Int)) ≤ 56 := by omega
          have hk3 : (8 * (7 - (k : Int))).toNat = 56 - 8 * k := by omega
          go_wp2_with (first | (at_builtin; refine wpList_append_own _ rfl _ _ 28 rfl (w.heap.size + 2) 5 i0 (.int .u8 0) 1 1 Tryd.underlying28 hi0 hz0 hz1 hz2 rfl (by omega) (.slice Av2 U.length cv2) U.length (u8s U) rfl (Hp.out.m.alloc _) ⟨wr.heap.size, 0, none⟩ 1 1 [.int .u8 ((b.length : Int) * 8 / 2 ^ (56 - 8 * k) % 256)] rfl rfl (cell_one_new _ _ _) (one_cell _) (by unfold maxLen; omega) (by omega) (by simp; omega) ?_))
          intro v1 wp hown1 hgrow1 _
          have Hfin := Lib.hid (tail_step HU.out hlt Hp.out hown1 hgrow1)
          obtain ⟨Av3, cv3, rfl, _, _, _, _⟩ := own_form hown1
          clear hown1 hgrow1
          go_wp2_with fail
          exact ⟨Hfin.out, by simp [intOf]; omega⟩
        · obtain rfl : k = 8 := by omega
          rw [List.take_of_length_le (by rw [be64_length]; exact Nat.le_refl _)] at HU
          have hPU : U = padded b := by rw [HU.out, HT.out]; simp [padded]
          have hmod := padded_length b
          rw [← hPU] at hmod
          obtain ⟨m, hm⟩ : ∃ m, U.length = 64 * m := ⟨U.length / 64, by omega⟩
          have Hm := Lib.hid hm
          have HP := Lib.hid hPU
          have hmk := make64
          obtain ⟨Z, hZ⟩ : ∃ Z, Z = zero64 := ⟨_, rfl⟩
          have hzs := zero64_size
          rw [← hZ] at hmk hzs
          have Hzs := Lib.hid hzs
          have Hul : Hid (U.length ≤ 1048576) := Lib.hid (by omega)
          have Hst : Hid (W4 w wr.heap.size U (.slice Av2 U.length cv2) shaH [] 0 (wr.alloc (.cells Z 58))) := Lib.hid ⟨⟨Hp.out.below.alloc Hp.out.below.size _, (Below.heap_alloc _ _ _ (by omega)).trans Hp.out.k, (Below.heap_alloc _ _ _ (by omega)).trans Hp.out.h, Hp.out.m.alloc _⟩, hwr, Z, heap_alloc_new _ _, hzs, fun j hj => by omega⟩
          clear hPU hmod hm hZ hzs HU HT Hl Hp' Hp1
          have hneg : ¬ (0 : Int) ≤ 7 - ((8 : Nat) : Int) := by omega
          go_upto_block 4 with fail
          refine o_link (R := fun A' wx => Keep pB _ A' ∧ W4 w wr.heap.size U (.slice Av2 U.length cv2) (blocks shaH U m) [] 0 wx) (b4_law (by kernel_rfl) _ _ w _ _ m cv2 Av2 U rfl Hm.out Hul.out rfl rfl rfl rfl rfl Hst.out fun A' wx h1 h2 => ⟨h1, h2⟩) ?_
          rename_i hK
          rintro B4 w4 ⟨hk4, hw4⟩
          have hs4 : B4.tmps.size = 330 := hk4.size
          have f4 : B4.eval (.tmp 4) = .slice (some ⟨w.heap.size + 1, 0, none⟩) 8 8 := hk4.ev 4 rfl
          have hdf : B4.defers = [] := hk4.defers
          have hpl : padded b = U := HP.out.symm
          have hsha : sha b = (blocks shaH U m).flatMap wordBytes := by unfold sha; rw [hpl, Hm.out, Nat.mul_div_cancel_left _ (by decide)]
          have h8l : (blocks shaH U m).length = 8 := blocks_length _ _ rfl _
          obtain ⟨hR4, _⟩ := hw4
          clear hk4
          refine hK B4 w4 ?_
          clear hK
          refine wp_seq ?_
          with_reducible refine g_list fun OPS => ?_
          iterate 1 (with_reducible refine l_val (v := ?_) (w' := ?_) ?_ ?_; rotate_left 2; (simp only [x_move, x_assign, x_load, x_store, x_bin, x_un, x_conv, x_indexAddr, x_index, x_call, ev_if, ev_const, ev_none, sz_put, hs4, Nat.reduceLT, Nat.reduceEqDiff, if_true, if_false]; go_simp; first | done | rfl | (constructor <;> rfl)))
          with_reducible refine g_nil ?_
          refine wp_seq (wp_seq ?_)
          with_reducible refine g_list fun OPS => ?_
          iterate 1 (with_reducible refine l_val (v := ?_) (w' := ?_) ?_ ?_; rotate_left 2; (simp only [x_move, x_assign, x_load, x_store, x_bin, x_un, x_conv, x_indexAddr, x_index, x_call, ev_if, ev_const, ev_none, sz_put, hs4, Nat.reduceLT, Nat.reduceEqDiff, if_true, if_false]; go_simp; first | done | rfl | (constructor <;> rfl)))
          with_reducible refine g_nil ?_
          refine o_link (R := fun A' wx => Keep p14 _ A' ∧ O14 w (blocks shaH U m) 8 (A'.eval (.tmp 23)) wx) (b14_law (by kernel_rfl) _ _ w w4 (blocks shaH U m) ?_ h8l ?_ ?_ ?_ fun A' wx h1 h2 => ⟨h1, h2⟩) ?_
          · (simp only [x_move, x_assign, x_load, x_store, x_bin, x_un, x_conv, x_indexAddr, x_index, x_call, ev_if, ev_const, ev_none, sz_put, hs4, Nat.reduceLT, Nat.reduceEqDiff, if_true, if_false]; first | done | rfl)
          · (simp only [x_move, x_assign, x_load, x_store, x_bin, x_un, x_conv, x_indexAddr, x_index, x_call, ev_if, ev_const, ev_none, sz_put, hs4, f4, Nat.reduceLT, Nat.reduceEqDiff, if_true, if_false]; first | done | rfl)
          · (simp only [x_move, x_assign, x_load, x_store, x_bin, x_un, x_conv, x_indexAddr, x_index, x_call, ev_if, ev_const, ev_none, sz_put, hs4, Nat.reduceLT, Nat.reduceEqDiff, if_true, if_false]; first | done | rfl)
          · refine ⟨?_, hR4.below, hR4.h⟩
            have e : Act.eval _ (.tmp 23) = .slice none 0 0 := show (((B4.put (some 23) (.slice none 0 0)).put (some 24) (.int .i64 0)).eval (.tmp 23)) = .slice none 0 0 by (simp only [x_move, x_assign, x_load, x_store, x_bin, x_un, x_conv, x_indexAddr, x_index, x_call, ev_if, ev_const, ev_none, sz_put, hs4, Nat.reduceLT, Nat.reduceEqDiff, if_true, if_false]; first | done | rfl)
            rw [e]
            exact World.ownsRow_nil _ _ _ _
          rintro B5 w5 ⟨hk5, hown5, hbel5, _⟩
          have hs5 := hk5.size.trans (show _ = 330 by (simp only [x_move, x_assign, x_load, x_store, x_bin, x_un, x_conv, x_indexAddr, x_index, x_call, ev_if, ev_const, ev_none, sz_put, hs4, Nat.reduceLT, Nat.reduceEqDiff, if_true, if_false]; first | done | rfl))
          have hd5 : B5.defers = [] := hk5.defers.trans hdf
          obtain ⟨v23, h23⟩ : ∃ v, B5.eval (.tmp 23) = v := ⟨_, rfl⟩
          rw [h23] at hown5
          have Hown5 := Lib.hid hown5
          clear hown5 hk5
          refine g_then ?_
          refine wp_seq ?_
          with_reducible refine g_list fun OPS => ?_
          iterate 2 (with_reducible refine l_val (v := ?_) (w' := ?_) ?_ ?_; rotate_left 2; (simp only [x_move, x_assign, x_load, x_store, x_bin, x_un, x_conv, x_indexAddr, x_index, x_call, ev_if, ev_const, ev_none, sz_put, hs5, h23, Nat.reduceLT, Nat.reduceEqDiff, if_true, if_false]; go_simp; first | done | rfl | (constructor <;> rfl)))
          with_reducible refine g_nil ?_
          refine wp_ret ?_
          refine bodyPost_ret (results_tmp rfl _ _ _) hd5 ?_
          have e2 : Act.eval ((B5.put (some 329) v23).put (some 2) v23) (.tmp 2) = v23 := by (simp only [x_move, x_assign, x_load, x_store, x_bin, x_un, x_conv, x_indexAddr, x_index, x_call, ev_if, ev_const, ev_none, sz_put, hs5, Nat.reduceLT, Nat.reduceEqDiff, if_true, if_false]; first | done | rfl)
          refine ⟨v23, congrArg Ending.returned e2, ?_, hbel5⟩
          rw [hsha]
          have := Hown5.out
          rw [List.take_of_length_le (by omega)] at this
          exact this
end Go.Proofs.YtdmladdpbdcpjaaDoor
