/-
  SHA-256 of the reference: the sixty-four rounds. (Printed by wip/abexp.py of what wip/ark/gen3.py prints.)
-/
import Derived.Test.YtfbdjfljgcfikaaDoorArkShR4
namespace Go.Proofs.YtfbdjfljgcfikaaDoor
open Go.RowKit

theorem W4.alloc {w wr : World} {wb : Nat} {P blk : List UInt8} {v : Value} {H : List Nat} {k : Nat} (h : W4 w wb P v H blk k wr) (o : Obj) : W4 w wb P v H blk k (wr.alloc o) := by
  obtain ⟨hR, hb, cs, hcs, hs, hrow⟩ := h
  have hsz := hR.size
  exact ⟨⟨hR.below.alloc hR.below.size _, (Below.heap_alloc _ _ _ (lt_of_heap hR.k)).trans hR.k, (Below.heap_alloc _ _ _ (lt_of_heap hR.h)).trans hR.h, hR.m.alloc _⟩, hb, cs, (Below.heap_alloc _ _ _ (lt_of_heap hcs)).trans hcs, hs, hrow⟩
def V6 (w : World) (wb : Nat) (P : List UInt8) (v : Value) (H : List Nat) (blk : List UInt8) (u : Value) (x : List Nat) (wx : World) : Prop := W4 w wb P v H blk 64 wx ∧ Row8 (w.heap.size + 2) u x wx
theorem build8 : ∀ (w : World) (v0 v1 v2 v3 v4 v5 v6 v7 : Int), (Instr.buildSlice 92 8 #[(0, .int .u32 v0), (1, .int .u32 v1), (2, .int .u32 v2), (3, .int .u32 v3), (4, .int .u32 v4), (5, .int .u32 v5), (6, .int .u32 v6), (7, .int .u32 v7)]).run Tryd.prog w = .ok (.slice (some ⟨w.heap.size, 0, none⟩) 8 8) (w.alloc (.cells #[.int .u32 v0, .int .u32 v1, .int .u32 v2, .int .u32 v3, .int .u32 v4, .int .u32 v5, .int .u32 v6, .int .u32 v7] 58)) := fun _ _ _ _ _ _ _ _ _ => by kernel_rfl
def p10 : Nat → Bool := span [(15, 21), (166, 282)]
set_option linter.unusedSimpArgs false in
set_option maxHeartbeats 4000000 in
set_option maxRecDepth 100000 in
theorem b10_law {c : Code} (hc : c = shaB 10) (A : Act) (R : Act → World → Prop) (w wr : World) (wb : Nat) (v : Value) (U blk : List UInt8) (H : List Nat) (hAs : A.tmps.size = 330) (hH : H.length = 8) (hF : Fit H)
    (h3 : A.eval (.tmp 3) = .slice (some ⟨w.heap.size, 0, none⟩) 64 64) (h8 : A.eval (.tmp 8) = .slice (some ⟨wb, 0, none⟩) 64 64) (h16 : A.eval (.tmp 16) = .int .i64 (0 : Nat))
    (hw : V6 w wb U v H blk (A.eval (.tmp 15)) H wr)
    (h : ∀ A' wr', Keep p10 A A' → V6 w wb U v H blk (A'.eval (.tmp 15)) (rounds (sched blk 64) H 64) wr' → R A' wr') : c.wp Tryd.prog (only R) A wr := by
  subst hc
  conv => arg 2; whnf
  with_reducible refine o_for 64 (fun k B wx => Keep p10 A B ∧ B.eval (.tmp 16) = .int .i64 (k : Nat) ∧ V6 w wb U v H blk (B.eval (.tmp 15)) (rounds (sched blk 64) H k) wx) ⟨Keep.refl _ _, h16, ?_⟩ ?_ ?_
  · exact hw
  · rintro k B wx hi ⟨hk, b16, hw4, vb, cv, cs, hvbB, b15, hvb, hx⟩
    have hBs := hk.size.trans hAs
    have b8 := (hk.ev 8 rfl).trans h8
    have b3 := (hk.ev 3 rfl).trans h3
    have Hw4 := Lib.hid hw4
    obtain ⟨hR, hwb, ws, hws, hws8, hrow⟩ := hw4
    have rk := ((blk_cells hR.k).1 k).trans (u32s_at (by show k < 64; omega))
    have rw' := ((blk_cells hws).1 k).trans (hrow k hi)
    have f8 := rounds_fit (sched blk 64) hF k
    have hst : rounds (sched blk 64) H (k + 1) = roundW (rounds (sched blk 64) H k) (shaK.getD k 0) ((sched blk 64).getD k 0) := rfl
    obtain ⟨x0, x1, x2, x3, x4, x5, x6, x7, he⟩ := eight (rounds_length (sched blk 64) H hH k)
    rw [he] at hst f8 hx
    have cx := (blk_cells hvb).1
    have c0 := (cx 0).trans (hx 0 (by omega))
    have y0 : x0 < 4294967296 := f8 _ (by simp)
    have c1 := (cx 1).trans (hx 1 (by omega))
    have y1 : x1 < 4294967296 := f8 _ (by simp)
    have c2 := (cx 2).trans (hx 2 (by omega))
    have y2 : x2 < 4294967296 := f8 _ (by simp)
    have c3 := (cx 3).trans (hx 3 (by omega))
    have y3 : x3 < 4294967296 := f8 _ (by simp)
    have c4 := (cx 4).trans (hx 4 (by omega))
    have y4 : x4 < 4294967296 := f8 _ (by simp)
    have c5 := (cx 5).trans (hx 5 (by omega))
    have y5 : x5 < 4294967296 := f8 _ (by simp)
    have c6 := (cx 6).trans (hx 6 (by omega))
    have y6 : x6 < 4294967296 := f8 _ (by simp)
    have c7 := (cx 7).trans (hx 7 (by omega))
    have y7 : x7 < 4294967296 := f8 _ (by simp)
    simp only [List.getD_cons_zero, List.getD_cons_succ] at c0 c1 c2 c3 c4 c5 c6 c7
    generalize shaK.getD k 0 = kk at *
    generalize (sched blk 64).getD k 0 = ww at *
    have Hst := Lib.hid hst
    have B1 := big1_int y4
    have B0 := big0_int y0
    have C1 := chose_int y4 y5 y6
    have M1 := most_int y0 y1 y2
    obtain ⟨b1, hb1⟩ : ∃ x, x = big1 x4 := ⟨_, rfl⟩
    obtain ⟨b0, hb0⟩ : ∃ x, x = big0 x0 := ⟨_, rfl⟩
    obtain ⟨ch, hch⟩ : ∃ x, x = chose x4 x5 x6 := ⟨_, rfl⟩
    obtain ⟨mo, hmo⟩ : ∃ x, x = most x0 x1 x2 := ⟨_, rfl⟩
    rw [← hb1] at B1
    rw [← hb0] at B0
    rw [← hch] at C1
    rw [← hmo] at M1
    have T1 := turn_c x4 6 y4 (by omega) (by omega)
    have T2 := turn_c x4 11 y4 (by omega) (by omega)
    have T3 := turn_c x4 25 y4 (by omega) (by omega)
    have T4 := turn_c x0 2 y0 (by omega) (by omega)
    have T5 := turn_c x0 13 y0 (by omega) (by omega)
    have T6 := turn_c x0 22 y0 (by omega) (by omega)
    have S1 := add32_int x7 b1
    have S2 := add32_int (add32 x7 b1) ch
    have S3 := add32_int (add32 (add32 x7 b1) ch) kk
    have S4 := add32_int (add32 (add32 (add32 x7 b1) ch) kk) ww
    obtain ⟨t1, ht1⟩ : ∃ x, x = add32 (add32 (add32 (add32 x7 b1) ch) kk) ww := ⟨_, rfl⟩
    rw [← ht1] at S4
    have S5 := add32_int t1 b0
    have S6 := add32_int (add32 t1 b0) mo
    have S7 := add32_int x3 t1
    have Hg := Lib.hid (show rounds (sched blk 64) H (k + 1) = [add32 (add32 t1 b0) mo, x0, x1, x2, add32 x3 t1, x4, x5, x6] by rw [hst, ht1, hb1, hb0, hch, hmo]; rfl)
    have hir : (0 : Int) ≤ k := by omega
    have hil : (k : Int) < 64 := by omega
    have m3 : IntKind.i64.wrap ((k : Int) + 1) = (k : Int) + 1 := by rw [IntKind.wrap_i64]; omega
    have hb8 := build8
    have hsg : (if IntKind.u32.signed = true then (-1 : Int) else IntKind.u32.max) = IntKind.u32.max := rfl
    clear hb1 hb0 hch hmo ht1 hst he hx cx f8 hR hws hws8 hrow hvb y0 y1 y2 y3 y4 y5 y6 y7
    with_reducible refine o_list fun OPS => ?_
    iterate 2 (with_reducible refine l_val (v := ?_) (w' := ?_) ?_ ?_; rotate_left 2; (simp only [x_move, x_assign, x_load, x_store, x_bin, x_un, x_conv, x_indexAddr, x_index, x_call, ev_if, ev_const, ev_none, sz_put, hBs, b16, Nat.reduceLT, Nat.reduceEqDiff, if_true, if_false]; go_simp; first | done | rfl | (constructor <;> rfl)))
    with_reducible refine o_nil ⟨?_, ?_⟩
    · (simp only [x_move, x_assign, x_load, x_store, x_bin, x_un, x_conv, x_indexAddr, x_index, x_call, ev_if, ev_const, ev_none, sz_put, hBs, b16, Nat.reduceLT, Nat.reduceEqDiff, if_true, if_false]; first | done | rfl)
    with_reducible refine o_seq ?_
    with_reducible refine region_quiet (by kernel_rfl) (by kernel_rfl) ?_
    intro OPS
    iterate 3 (with_reducible refine q_val (v := ?_) ?_ ?_; rotate_left; (rintro _ ⟨_, rfl⟩; simp only [x_move, x_assign, x_load, x_store, x_bin, x_un, x_conv, x_indexAddr, x_index, x_call, ev_if, ev_const, ev_none, sz_put, hBs, b15, Nat.reduceLT, Nat.reduceEqDiff, if_true, if_false]; go_simp; first | done | rfl | (constructor <;> rfl)))
    with_reducible refine q_call (v := .int .u32 (rotr x4 6 : Nat)) (f := 65) (args := #[.int .u32 x4, .int .i64 (6 : Nat)]) ?_ (T1 _) ?_
    · (rintro _ ⟨_, rfl⟩; simp only [x_call, ev_if, ev_const, sz_put, hBs, Nat.reduceLT, Nat.reduceEqDiff, if_true, if_false]; go_simp; first | done | rfl)
    iterate 3 (with_reducible refine q_val (v := ?_) ?_ ?_; rotate_left; (rintro _ ⟨_, rfl⟩; simp only [x_move, x_assign, x_load, x_store, x_bin, x_un, x_conv, x_indexAddr, x_index, x_call, ev_if, ev_const, ev_none, sz_put, hBs, b15, Nat.reduceLT, Nat.reduceEqDiff, if_true, if_false]; go_simp; first | done | rfl | (constructor <;> rfl)))
    with_reducible refine q_call (v := .int .u32 (rotr x4 11 : Nat)) (f := 65) (args := #[.int .u32 x4, .int .i64 (11 : Nat)]) ?_ (T2 _) ?_
    · (rintro _ ⟨_, rfl⟩; simp only [x_call, ev_if, ev_const, sz_put, hBs, Nat.reduceLT, Nat.reduceEqDiff, if_true, if_false]; go_simp; first | done | rfl)
    iterate 4 (with_reducible refine q_val (v := ?_) ?_ ?_; rotate_left; (rintro _ ⟨_, rfl⟩; simp only [x_move, x_assign, x_load, x_store, x_bin, x_un, x_conv, x_indexAddr, x_index, x_call, ev_if, ev_const, ev_none, sz_put, hBs, b15, Nat.reduceLT, Nat.reduceEqDiff, if_true, if_false]; go_simp; first | done | rfl | (constructor <;> rfl)))
    with_reducible refine q_call (v := .int .u32 (rotr x4 25 : Nat)) (f := 65) (args := #[.int .u32 x4, .int .i64 (25 : Nat)]) ?_ (T3 _) ?_
    · (rintro _ ⟨_, rfl⟩; simp only [x_call, ev_if, ev_const, sz_put, hBs, Nat.reduceLT, Nat.reduceEqDiff, if_true, if_false]; go_simp; first | done | rfl)
    iterate 2 (with_reducible refine q_val (v := ?_) ?_ ?_; rotate_left; (rintro _ ⟨_, rfl⟩; simp only [x_move, x_assign, x_load, x_store, x_bin, x_un, x_conv, x_indexAddr, x_index, x_call, ev_if, ev_const, ev_none, sz_put, hBs, b15, Nat.reduceLT, Nat.reduceEqDiff, if_true, if_false]; go_simp; first | done | rfl | (constructor <;> rfl)))
    with_reducible refine wpQuiet_nil ?_
    rintro _ ⟨n1, rfl⟩
    with_reducible refine o_nrm ?_
    with_reducible refine rebase (B := B) (span [(17, 17), (166, 183)]) 17 (.int .u32 b1) ?_ ?_ ?_
    · with_reducible repeat (first | exact Keep.refl _ _ | refine Keep.put rfl ?_ | refine Keep.putN ?_)
    · (simp only [x_move, x_assign, x_load, x_store, x_bin, x_un, x_conv, x_indexAddr, x_index, x_call, ev_if, ev_const, ev_none, sz_put, hBs, Nat.reduceLT, Nat.reduceEqDiff, if_true, if_false]; first | done | rfl)
    intro B1 hk1 e17
    have hBs1 := hk1.size.trans hBs
    replace b15 := (hk1.ev 15 rfl).trans b15
    replace b16 := (hk1.ev 16 rfl).trans b16
    replace b8 := (hk1.ev 8 rfl).trans b8
    replace b3 := (hk1.ev 3 rfl).trans b3
    with_reducible refine o_seq ?_
    with_reducible refine o_still (by kernel_rfl) (by kernel_rfl) ?_
    intro OPS
    iterate 17 (with_reducible refine s_val (v := ?_) ?_ ?_; rotate_left; (simp only [x_move, x_assign, x_load, x_store, x_bin, x_un, x_conv, x_indexAddr, x_index, x_call, ev_if, ev_const, ev_none, sz_put, hBs1, b15, Nat.reduceLT, Nat.reduceEqDiff, if_true, if_false]; go_simp; first | done | rfl | (constructor <;> rfl)))
    with_reducible refine wpStill_nil ?_
    with_reducible refine o_nrm ?_
    with_reducible refine rebase (B := B1) (span [(18, 18), (184, 199)]) 18 (.int .u32 ch) ?_ ?_ ?_
    · with_reducible repeat (first | exact Keep.refl _ _ | refine Keep.put rfl ?_ | refine Keep.putN ?_)
    · (simp only [x_move, x_assign, x_load, x_store, x_bin, x_un, x_conv, x_indexAddr, x_index, x_call, ev_if, ev_const, ev_none, sz_put, hBs1, Nat.reduceLT, Nat.reduceEqDiff, if_true, if_false]; first | done | rfl)
    intro B2 hk2 e18
    have hBs2 := hk2.size.trans hBs1
    replace b15 := (hk2.ev 15 rfl).trans b15
    replace b16 := (hk2.ev 16 rfl).trans b16
    replace b8 := (hk2.ev 8 rfl).trans b8
    replace b3 := (hk2.ev 3 rfl).trans b3
    replace e17 := (hk2.ev 17 rfl).trans e17
    with_reducible refine o_seq ?_
    with_reducible refine o_still (by kernel_rfl) (by kernel_rfl) ?_
    intro OPS
    iterate 18 (with_reducible refine s_val (v := ?_) ?_ ?_; rotate_left; (simp only [x_move, x_assign, x_load, x_store, x_bin, x_un, x_conv, x_indexAddr, x_index, x_call, ev_if, ev_const, ev_none, sz_put, hBs2, b15, b16, b8, b3, e17, e18, Nat.reduceLT, Nat.reduceEqDiff, if_true, if_false]; go_simp; first | done | rfl | (constructor <;> rfl)))
    with_reducible refine wpStill_nil ?_
    with_reducible refine o_nrm ?_
    with_reducible refine rebase (B := B2) (span [(19, 19), (200, 216)]) 19 (.int .u32 t1) ?_ ?_ ?_
    · with_reducible repeat (first | exact Keep.refl _ _ | refine Keep.put rfl ?_ | refine Keep.putN ?_)
    · (simp only [x_move, x_assign, x_load, x_store, x_bin, x_un, x_conv, x_indexAddr, x_index, x_call, ev_if, ev_const, ev_none, sz_put, hBs2, Nat.reduceLT, Nat.reduceEqDiff, if_true, if_false]; first | done | rfl)
    intro B3 hk3 e19
    have hBs3 := hk3.size.trans hBs2
    replace b15 := (hk3.ev 15 rfl).trans b15
    replace b16 := (hk3.ev 16 rfl).trans b16
    with_reducible refine o_seq ?_
    with_reducible refine region_quiet (by kernel_rfl) (by kernel_rfl) ?_
    intro OPS
    iterate 3 (with_reducible refine q_val (v := ?_) ?_ ?_; rotate_left; (rintro _ ⟨_, rfl⟩; simp only [x_move, x_assign, x_load, x_store, x_bin, x_un, x_conv, x_indexAddr, x_index, x_call, ev_if, ev_const, ev_none, sz_put, hBs3, b15, Nat.reduceLT, Nat.reduceEqDiff, if_true, if_false]; go_simp; first | done | rfl | (constructor <;> rfl)))
    with_reducible refine q_call (v := .int .u32 (rotr x0 2 : Nat)) (f := 65) (args := #[.int .u32 x0, .int .i64 (2 : Nat)]) ?_ (T4 _) ?_
    · (rintro _ ⟨_, rfl⟩; simp only [x_call, ev_if, ev_const, sz_put, hBs3, Nat.reduceLT, Nat.reduceEqDiff, if_true, if_false]; go_simp; first | done | rfl)
    iterate 3 (with_reducible refine q_val (v := ?_) ?_ ?_; rotate_left; (rintro _ ⟨_, rfl⟩; simp only [x_move, x_assign, x_load, x_store, x_bin, x_un, x_conv, x_indexAddr, x_index, x_call, ev_if, ev_const, ev_none, sz_put, hBs3, b15, Nat.reduceLT, Nat.reduceEqDiff, if_true, if_false]; go_simp; first | done | rfl | (constructor <;> rfl)))
    with_reducible refine q_call (v := .int .u32 (rotr x0 13 : Nat)) (f := 65) (args := #[.int .u32 x0, .int .i64 (13 : Nat)]) ?_ (T5 _) ?_
    · (rintro _ ⟨_, rfl⟩; simp only [x_call, ev_if, ev_const, sz_put, hBs3, Nat.reduceLT, Nat.reduceEqDiff, if_true, if_false]; go_simp; first | done | rfl)
    iterate 4 (with_reducible refine q_val (v := ?_) ?_ ?_; rotate_left; (rintro _ ⟨_, rfl⟩; simp only [x_move, x_assign, x_load, x_store, x_bin, x_un, x_conv, x_indexAddr, x_index, x_call, ev_if, ev_const, ev_none, sz_put, hBs3, b15, Nat.reduceLT, Nat.reduceEqDiff, if_true, if_false]; go_simp; first | done | rfl | (constructor <;> rfl)))
    with_reducible refine q_call (v := .int .u32 (rotr x0 22 : Nat)) (f := 65) (args := #[.int .u32 x0, .int .i64 (22 : Nat)]) ?_ (T6 _) ?_
    · (rintro _ ⟨_, rfl⟩; simp only [x_call, ev_if, ev_const, sz_put, hBs3, Nat.reduceLT, Nat.reduceEqDiff, if_true, if_false]; go_simp; first | done | rfl)
    iterate 2 (with_reducible refine q_val (v := ?_) ?_ ?_; rotate_left; (rintro _ ⟨_, rfl⟩; simp only [x_move, x_assign, x_load, x_store, x_bin, x_un, x_conv, x_indexAddr, x_index, x_call, ev_if, ev_const, ev_none, sz_put, hBs3, b15, Nat.reduceLT, Nat.reduceEqDiff, if_true, if_false]; go_simp; first | done | rfl | (constructor <;> rfl)))
    with_reducible refine wpQuiet_nil ?_
    rintro _ ⟨n2, rfl⟩
    with_reducible refine o_nrm ?_
    with_reducible refine rebase (B := B3) (span [(20, 20), (217, 230)]) 20 (.int .u32 b0) ?_ ?_ ?_
    · with_reducible repeat (first | exact Keep.refl _ _ | refine Keep.put rfl ?_ | refine Keep.putN ?_)
    · (simp only [x_move, x_assign, x_load, x_store, x_bin, x_un, x_conv, x_indexAddr, x_index, x_call, ev_if, ev_const, ev_none, sz_put, hBs3, Nat.reduceLT, Nat.reduceEqDiff, if_true, if_false]; first | done | rfl)
    intro B4 hk4 e20
    have hBs4 := hk4.size.trans hBs3
    replace b15 := (hk4.ev 15 rfl).trans b15
    replace b16 := (hk4.ev 16 rfl).trans b16
    replace e19 := (hk4.ev 19 rfl).trans e19
    with_reducible refine o_seq ?_
    with_reducible refine o_still (by kernel_rfl) (by kernel_rfl) ?_
    intro OPS
    iterate 24 (with_reducible refine s_val (v := ?_) ?_ ?_; rotate_left; (simp only [x_move, x_assign, x_load, x_store, x_bin, x_un, x_conv, x_indexAddr, x_index, x_call, ev_if, ev_const, ev_none, sz_put, hBs4, b15, Nat.reduceLT, Nat.reduceEqDiff, if_true, if_false]; go_simp; first | done | rfl | (constructor <;> rfl)))
    with_reducible refine wpStill_nil ?_
    with_reducible refine o_nrm ?_
    with_reducible refine rebase (B := B4) (span [(21, 21), (231, 253)]) 21 (.int .u32 mo) ?_ ?_ ?_
    · with_reducible repeat (first | exact Keep.refl _ _ | refine Keep.put rfl ?_ | refine Keep.putN ?_)
    · (simp only [x_move, x_assign, x_load, x_store, x_bin, x_un, x_conv, x_indexAddr, x_index, x_call, ev_if, ev_const, ev_none, sz_put, hBs4, Nat.reduceLT, Nat.reduceEqDiff, if_true, if_false]; first | done | rfl)
    intro B5 hk5 e21
    have hBs5 := hk5.size.trans hBs4
    replace b15 := (hk5.ev 15 rfl).trans b15
    replace b16 := (hk5.ev 16 rfl).trans b16
    replace e19 := (hk5.ev 19 rfl).trans e19
    replace e20 := (hk5.ev 20 rfl).trans e20
    with_reducible refine region_still_tail 28 (by kernel_rfl) (by kernel_rfl) ?_
    intro OPS
    simp only [List.take_succ_cons, List.take_zero, List.drop_succ_cons, List.drop_zero]
    iterate 28 (with_reducible refine s_val (v := ?_) ?_ ?_; rotate_left; (simp only [x_move, x_assign, x_load, x_store, x_bin, x_un, x_conv, x_indexAddr, x_index, x_call, ev_if, ev_const, ev_none, sz_put, hBs5, b15, e19, e20, e21, Nat.reduceLT, Nat.reduceEqDiff, if_true, if_false]; go_simp; first | done | rfl | (constructor <;> rfl)))
    with_reducible refine wpStill_nil ?_
    iterate 1 (with_reducible refine l_val (v := ?_) (w' := ?_) ?_ ?_; rotate_left 2; (simp only [x_move, x_assign, x_load, x_store, x_bin, x_un, x_conv, x_indexAddr, x_index, x_call, ev_if, ev_const, ev_none, sz_put, hBs5, x_build, hb8, Nat.reduceLT, Nat.reduceEqDiff, if_true, if_false]; go_simp; first | done | rfl | (constructor <;> rfl)))
    iterate 1 (with_reducible refine l_val (v := ?_) (w' := ?_) ?_ ?_; rotate_left 2; (simp only [x_move, x_assign, x_load, x_store, x_bin, x_un, x_conv, x_indexAddr, x_index, x_call, ev_if, ev_const, ev_none, sz_put, hBs5, Nat.reduceLT, Nat.reduceEqDiff, if_true, if_false]; go_simp; first | done | rfl | (constructor <;> rfl)))
    with_reducible refine o_nil ?_
    with_reducible refine o_list fun OPS => ?_
    iterate 3 (with_reducible refine l_val (v := ?_) (w' := ?_) ?_ ?_; rotate_left 2; (simp only [x_move, x_assign, x_load, x_store, x_bin, x_un, x_conv, x_indexAddr, x_index, x_call, ev_if, ev_const, ev_none, sz_put, hBs5, b16, Nat.reduceLT, Nat.reduceEqDiff, if_true, if_false]; go_simp; first | done | rfl | (constructor <;> rfl)))
    with_reducible refine o_nil ⟨?_, ?_, ?_⟩
    · refine (((((hk.trans (hk1.mono ?_)).trans (hk2.mono ?_)).trans (hk3.mono ?_)).trans (hk4.mono ?_)).trans (hk5.mono ?_)).trans (?_ : Keep p10 B5 _)
      rotate_right; all_goals first | (intro j hj; simp [p10, span] at hj ⊢; omega) | skip
      with_reducible repeat (first | exact Keep.refl _ _ | refine Keep.put rfl ?_ | refine Keep.putN ?_)
    · (simp only [x_move, x_assign, x_load, x_store, x_bin, x_un, x_conv, x_indexAddr, x_index, x_call, ev_if, ev_const, ev_none, sz_put, hBs5, Nat.reduceLT, Nat.reduceEqDiff, if_true, if_false]; first | done | rfl)
    · simp only [ev_if, sz_put, hBs5, Nat.reduceLT, Nat.reduceEqDiff, if_true, if_false]
      rw [Hg.out]
      refine ⟨(Hw4.out.drewN _).alloc _, wx.heap.size, 8, _, Hw4.out.1.size, rfl, heap_alloc_new (wx.drewN _) _, fun j hj => ?_⟩
      rcases (by omega : j = 0 ∨ j = 1 ∨ j = 2 ∨ j = 3 ∨ j = 4 ∨ j = 5 ∨ j = 6 ∨ j = 7) with rfl | rfl | rfl | rfl | rfl | rfl | rfl | rfl
      all_goals rfl
  · rintro B wx ⟨hk, b16, hw6⟩
    have hBs := hk.size.trans hAs
    with_reducible refine o_list fun OPS => ?_
    iterate 2 (with_reducible refine l_val (v := ?_) (w' := ?_) ?_ ?_; rotate_left 2; (simp only [x_move, x_assign, x_load, x_store, x_bin, x_un, x_conv, x_indexAddr, x_index, x_call, ev_if, ev_const, ev_none, sz_put, hBs, b16, Nat.reduceLT, Nat.reduceEqDiff, if_true, if_false]; go_simp; first | done | rfl | (constructor <;> rfl)))
    with_reducible refine o_nil ⟨?_, ?_⟩
    · (simp only [x_move, x_assign, x_load, x_store, x_bin, x_un, x_conv, x_indexAddr, x_index, x_call, ev_if, ev_const, ev_none, sz_put, hBs, b16, Nat.reduceLT, Nat.reduceEqDiff, if_true, if_false]; first | done | rfl)
    refine h _ _ ?_ ?_
    · with_reducible repeat (first | exact hk | refine Keep.put rfl ?_ | refine Keep.putN ?_)
    · simp only [ev_if, sz_put, hBs, Nat.reduceLT, Nat.reduceEqDiff, if_false]
      exact hw6
end Go.Proofs.YtfbdjfljgcfikaaDoor
