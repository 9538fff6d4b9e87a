/-
  SHA-256 of the reference: the loop that draws the schedule out. (Printed by wip/abexp.py.)
-/
import Derived.Test.YtfbdjfljgcfikaaDoorArkShR1
import Derived.Test.YtfbdjfljgcfikaaDoorArkFns
namespace Go.Proofs.YtfbdjfljgcfikaaDoor
open Go.RowKit

theorem turn_c (x n : Nat) (hx : x < 4294967296) (hn : n < 32) (hn0 : 0 < n) (w0 : World) : ∀ w', (∃ k, w' = w0.drewN k) → Calls Tryd.prog 65 #[.int .u32 x, .int .i64 n] w' fun e w'' => e = .returned (.int .u32 (rotr x n : Nat)) ∧ ∃ k, w'' = w0.drewN k := by
  rintro _ ⟨k, rfl⟩
  refine (turn_any x n _ hx hn hn0).mono ?_
  rintro e _ ⟨he, q, rfl⟩
  exact ⟨he, k + q, World.drewN_drewN _ _ _⟩
def p8 : Nat → Bool := span [(12, 14), (101, 162)]
set_option linter.unusedSimpArgs false in
set_option maxHeartbeats 2000000 in
set_option maxRecDepth 100000 in
theorem b8_law {c : Code} (hc : c = shaB 8) (A : Act) (R : Act → World → Prop) (w wr : World) (wb : Nat) (v : Value) (U blk : List UInt8) (H : List Nat) (hAs : A.tmps.size = 330)
    (h8 : A.eval (.tmp 8) = .slice (some ⟨wb, 0, none⟩) 64 64) (h12 : A.eval (.tmp 12) = .int .i64 (16 : Nat))
    (hw : W4 w wb U v H blk 16 wr)
    (h : ∀ A' wr', Keep p8 A A' → W4 w wb U v H blk 64 wr' → R A' wr') : c.wp Tryd.prog (only R) A wr := by
  subst hc
  conv => arg 2; whnf
  with_reducible refine o_for 48 (fun i B wx => Keep p8 A B ∧ B.eval (.tmp 12) = .int .i64 ((16 + i : Nat) : Int) ∧ W4 w wb U v H blk (16 + i) wx) ⟨Keep.refl _ _, h12, hw⟩ ?_ ?_
  · rintro i B wx hi ⟨hk, b12, hw4⟩
    have hBs := hk.size.trans hAs
    have b8 := (hk.ev 8 rfl).trans h8
    obtain ⟨k, hki⟩ : ∃ k, k = 16 + i := ⟨_, rfl⟩
    rw [show 16 + (i + 1) = k + 1 by omega]
    rw [← hki] at b12 hw4
    have Hw4 := Lib.hid hw4
    obtain ⟨hR, hwb, cs, hcs, hcs8, hrow⟩ := hw4
    have cr := blk_cells hcs
    have hsome : cs[k]? = some (cs[k]'(by omega)) := Array.getElem?_eq_getElem _
    have hcell : wx.cell? ⟨wb, k, none⟩ = some (cs[k]'(by omega)) := (cr.1 k).trans hsome
    have hfz := cr.2.1 k
    generalize cs[k]'(by omega) = old at *
    have hwn : nextW blk (sched blk k) = add32 (add32 (add32 ((sched blk k).getD (k - 16) 0) (low0 ((sched blk k).getD (k - 15) 0))) ((sched blk k).getD (k - 7) 0)) (low1 ((sched blk k).getD (k - 2) 0)) := by
      unfold nextW
      rw [sched_length, if_neg (by omega)]
    have r16 := (cr.1 (k - 16)).trans (hrow (k - 16) (by omega))
    have r15 := (cr.1 (k - 15)).trans (hrow (k - 15) (by omega))
    have r7 := (cr.1 (k - 7)).trans (hrow (k - 7) (by omega))
    have r2 := (cr.1 (k - 2)).trans (hrow (k - 2) (by omega))
    have x16 := (sched_fit blk k).getD (k - 16)
    have x15 := (sched_fit blk k).getD (k - 15)
    have x7 := (sched_fit blk k).getD (k - 7)
    have x2 := (sched_fit blk k).getD (k - 2)
    generalize (sched blk k).getD (k - 16) 0 = a16 at *
    generalize (sched blk k).getD (k - 15) 0 = a15 at *
    generalize (sched blk k).getD (k - 7) 0 = a7 at *
    generalize (sched blk k).getD (k - 2) 0 = a2 at *
    have L0 := low0_int x15
    have L1 := low1_int x2
    have T1 := turn_c a15 7 x15 (by omega) (by omega)
    have T2 := turn_c a15 18 x15 (by omega) (by omega)
    have T3 := turn_c a2 17 x2 (by omega) (by omega)
    have T4 := turn_c a2 19 x2 (by omega) (by omega)
    have S1 := add32_int a16 (low0 a15)
    have S2 := add32_int (add32 a16 (low0 a15)) a7
    have S3 := add32_int (add32 (add32 a16 (low0 a15)) a7) (low1 a2)
    have Hwn := Lib.hid hwn
    have hir : (0 : Int) ≤ k := by omega
    have hil : (k : Int) < 64 := by omega
    have p16 : ((k : Int) - 16).toNat = k - 16 := by omega
    have p15 : ((k : Int) - 15).toNat = k - 15 := by omega
    have p7 : ((k : Int) - 7).toNat = k - 7 := by omega
    have p2 : ((k : Int) - 2).toNat = k - 2 := by omega
    have u16' : (16 : Int) ≤ (k : Int) := by omega
    have u15' : (15 : Int) ≤ (k : Int) := by omega
    have u7' : (7 : Int) ≤ (k : Int) := by omega
    have u2' : (2 : Int) ≤ (k : Int) := by omega
    have v16' : (k : Int) - 16 < 64 := by omega
    have v15' : (k : Int) - 15 < 64 := by omega
    have v7' : (k : Int) - 7 < 64 := by omega
    have v2' : (k : Int) - 2 < 64 := by omega
    have w16 : IntKind.i64.wrap ((k : Int) - 16) = (k : Int) - 16 := by rw [IntKind.wrap_i64]; omega
    have w15 : IntKind.i64.wrap ((k : Int) - 15) = (k : Int) - 15 := by rw [IntKind.wrap_i64]; omega
    have w7 : IntKind.i64.wrap ((k : Int) - 7) = (k : Int) - 7 := by rw [IntKind.wrap_i64]; omega
    have w2 : IntKind.i64.wrap ((k : Int) - 2) = (k : Int) - 2 := by rw [IntKind.wrap_i64]; omega
    have m3 : IntKind.i64.wrap ((k : Int) + 1) = (k : Int) + 1 := by rw [IntKind.wrap_i64]; omega
    clear hwn cr hki hR hrow hcs hcs8 hsome x16 x15 x7 x2
    with_reducible refine o_list fun OPS => ?_
    iterate 2 (with_reducible refine l_val (v := ?_) (w' := ?_) ?_ ?_; rotate_left 2; (simp only [x_move, x_assign, x_load, x_store, x_bin, x_un, x_conv, x_indexAddr, x_index, x_call, ev_if, ev_const, ev_none, sz_put, hBs, b12, Nat.reduceLT, Nat.reduceEqDiff, if_true, if_false]; go_simp; first | done | rfl | (constructor <;> rfl)))
    with_reducible refine o_nil ⟨?_, ?_⟩
    · (simp only [x_move, x_assign, x_load, x_store, x_bin, x_un, x_conv, x_indexAddr, x_index, x_call, ev_if, ev_const, ev_none, sz_put, hBs, b12, Nat.reduceLT, Nat.reduceEqDiff, if_true, if_false]; first | done | rfl)
    with_reducible refine o_seq ?_
    with_reducible refine region_quiet (by kernel_rfl) (by kernel_rfl) ?_
    intro OPS
    iterate 5 (with_reducible refine q_val (v := ?_) ?_ ?_; rotate_left; (rintro _ ⟨_, rfl⟩; simp only [x_move, x_assign, x_load, x_store, x_bin, x_un, x_conv, x_indexAddr, x_index, x_call, ev_if, ev_const, ev_none, sz_put, hBs, b8, b12, Nat.reduceLT, Nat.reduceEqDiff, if_true, if_false]; go_simp; first | done | rfl | (constructor <;> rfl)))
    with_reducible refine q_call (v := .int .u32 (rotr a15 7 : Nat)) (f := 65) (args := #[.int .u32 a15, .int .i64 (7 : Nat)]) ?_ (T1 _) ?_
    · (rintro _ ⟨_, rfl⟩; simp only [x_call, ev_if, ev_const, sz_put, hBs, Nat.reduceLT, Nat.reduceEqDiff, if_true, if_false]; go_simp; first | done | rfl)
    iterate 5 (with_reducible refine q_val (v := ?_) ?_ ?_; rotate_left; (rintro _ ⟨_, rfl⟩; simp only [x_move, x_assign, x_load, x_store, x_bin, x_un, x_conv, x_indexAddr, x_index, x_call, ev_if, ev_const, ev_none, sz_put, hBs, b8, b12, Nat.reduceLT, Nat.reduceEqDiff, if_true, if_false]; go_simp; first | done | rfl | (constructor <;> rfl)))
    with_reducible refine q_call (v := .int .u32 (rotr a15 18 : Nat)) (f := 65) (args := #[.int .u32 a15, .int .i64 (18 : Nat)]) ?_ (T2 _) ?_
    · (rintro _ ⟨_, rfl⟩; simp only [x_call, ev_if, ev_const, sz_put, hBs, Nat.reduceLT, Nat.reduceEqDiff, if_true, if_false]; go_simp; first | done | rfl)
    iterate 9 (with_reducible refine q_val (v := ?_) ?_ ?_; rotate_left; (rintro _ ⟨_, rfl⟩; simp only [x_move, x_assign, x_load, x_store, x_bin, x_un, x_conv, x_indexAddr, x_index, x_call, ev_if, ev_const, ev_none, sz_put, hBs, b8, b12, Nat.reduceLT, Nat.reduceEqDiff, if_true, if_false]; go_simp; first | done | rfl | (constructor <;> rfl)))
    with_reducible refine wpQuiet_nil ?_
    rintro _ ⟨n1, rfl⟩
    with_reducible refine o_nrm ?_
    with_reducible refine o_seq ?_
    with_reducible refine region_quiet (by kernel_rfl) (by kernel_rfl) ?_
    intro OPS
    iterate 5 (with_reducible refine q_val (v := ?_) ?_ ?_; rotate_left; (rintro _ ⟨_, rfl⟩; simp only [x_move, x_assign, x_load, x_store, x_bin, x_un, x_conv, x_indexAddr, x_index, x_call, ev_if, ev_const, ev_none, sz_put, hBs, b8, b12, Nat.reduceLT, Nat.reduceEqDiff, if_true, if_false]; go_simp; first | done | rfl | (constructor <;> rfl)))
    with_reducible refine q_call (v := .int .u32 (rotr a2 17 : Nat)) (f := 65) (args := #[.int .u32 a2, .int .i64 (17 : Nat)]) ?_ (T3 _) ?_
    · (rintro _ ⟨_, rfl⟩; simp only [x_call, ev_if, ev_const, sz_put, hBs, Nat.reduceLT, Nat.reduceEqDiff, if_true, if_false]; go_simp; first | done | rfl)
    iterate 5 (with_reducible refine q_val (v := ?_) ?_ ?_; rotate_left; (rintro _ ⟨_, rfl⟩; simp only [x_move, x_assign, x_load, x_store, x_bin, x_un, x_conv, x_indexAddr, x_index, x_call, ev_if, ev_const, ev_none, sz_put, hBs, b8, b12, Nat.reduceLT, Nat.reduceEqDiff, if_true, if_false]; go_simp; first | done | rfl | (constructor <;> rfl)))
    with_reducible refine q_call (v := .int .u32 (rotr a2 19 : Nat)) (f := 65) (args := #[.int .u32 a2, .int .i64 (19 : Nat)]) ?_ (T4 _) ?_
    · (rintro _ ⟨_, rfl⟩; simp only [x_call, ev_if, ev_const, sz_put, hBs, Nat.reduceLT, Nat.reduceEqDiff, if_true, if_false]; go_simp; first | done | rfl)
    iterate 9 (with_reducible refine q_val (v := ?_) ?_ ?_; rotate_left; (rintro _ ⟨_, rfl⟩; simp only [x_move, x_assign, x_load, x_store, x_bin, x_un, x_conv, x_indexAddr, x_index, x_call, ev_if, ev_const, ev_none, sz_put, hBs, b8, b12, Nat.reduceLT, Nat.reduceEqDiff, if_true, if_false]; go_simp; first | done | rfl | (constructor <;> rfl)))
    with_reducible refine wpQuiet_nil ?_
    rintro _ ⟨n2, rfl⟩
    with_reducible refine o_nrm ?_
    with_reducible refine region_still_tail 18 (by kernel_rfl) (by kernel_rfl) ?_
    intro OPS
    simp only [List.take_succ_cons, List.take_zero, List.drop_succ_cons, List.drop_zero]
    iterate 18 (with_reducible refine s_val (v := ?_) ?_ ?_; rotate_left; (simp only [x_move, x_assign, x_load, x_store, x_bin, x_un, x_conv, x_indexAddr, x_index, x_call, ev_if, ev_const, ev_none, sz_put, hBs, b8, b12, Nat.reduceLT, Nat.reduceEqDiff, if_true, if_false]; go_simp; first | done | rfl | (constructor <;> rfl)))
    with_reducible refine wpStill_nil ?_
    with_reducible refine l_skip (w' := ?_) ?_ ?_; rotate_left; (simp only [x_move, x_assign, x_load, x_store, x_bin, x_un, x_conv, x_indexAddr, x_index, x_call, ev_if, ev_const, ev_none, sz_put, hBs, Nat.reduceLT, Nat.reduceEqDiff, if_true, if_false]; go_simp; first | done | rfl | (constructor <;> rfl))
    with_reducible refine o_nil ?_
    with_reducible refine o_list fun OPS => ?_
    iterate 3 (with_reducible refine l_val (v := ?_) (w' := ?_) ?_ ?_; rotate_left 2; (simp only [x_move, x_assign, x_load, x_store, x_bin, x_un, x_conv, x_indexAddr, x_index, x_call, ev_if, ev_const, ev_none, sz_put, hBs, b12, Nat.reduceLT, Nat.reduceEqDiff, if_true, if_false]; go_simp; first | done | rfl | (constructor <;> rfl)))
    with_reducible refine o_nil ⟨?_, ?_, ?_⟩
    · with_reducible repeat (first | exact hk | refine Keep.put rfl ?_ | refine Keep.putN ?_)
    · (simp only [x_move, x_assign, x_load, x_store, x_bin, x_un, x_conv, x_indexAddr, x_index, x_call, ev_if, ev_const, ev_none, sz_put, hBs, Nat.reduceLT, Nat.reduceEqDiff, if_true, if_false]; first | done | rfl)
    · have hs := (Hw4.out.drewN (n1 + n2 + 1)).step (by omega : k < 64)
      rw [Hwn.out] at hs
      exact hs
  · rintro B wx ⟨hk, b12, hw4⟩
    have hBs := hk.size.trans hAs
    with_reducible refine o_list fun OPS => ?_
    iterate 2 (with_reducible refine l_val (v := ?_) (w' := ?_) ?_ ?_; rotate_left 2; (simp only [x_move, x_assign, x_load, x_store, x_bin, x_un, x_conv, x_indexAddr, x_index, x_call, ev_if, ev_const, ev_none, sz_put, hBs, b12, Nat.reduceLT, Nat.reduceEqDiff, if_true, if_false]; go_simp; first | done | rfl | (constructor <;> rfl)))
    with_reducible refine o_nil ⟨?_, ?_⟩
    · (simp only [x_move, x_assign, x_load, x_store, x_bin, x_un, x_conv, x_indexAddr, x_index, x_call, ev_if, ev_const, ev_none, sz_put, hBs, b12, Nat.reduceLT, Nat.reduceEqDiff, if_true, if_false]; first | done | rfl)
    refine h _ _ ?_ hw4
    with_reducible repeat (first | exact hk | refine Keep.put rfl ?_ | refine Keep.putN ?_)
end Go.Proofs.YtfbdjfljgcfikaaDoor
