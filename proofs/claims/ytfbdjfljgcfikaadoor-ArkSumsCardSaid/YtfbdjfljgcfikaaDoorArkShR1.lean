/-
  SHA-256 of the reference: the loops over a block, in a frame that is a variable. (Printed by wip/abexp.py.)
-/
import Derived.Test.YtfbdjfljgcfikaaDoorArkShR0
import Derived.Test.YtfbdjfljgcfikaaDoorAb
namespace Go.Proofs.YtfbdjfljgcfikaaDoor
open Go.RowKit

noncomputable def shaB (n : Nat) : Code := ((Tryd.f33.body.bind (blockOf n)).getD .skip)
theorem cutD (U : List UInt8) (a : Nat) {i : Nat} (hi : i < 64) : ((U.drop a).take 64).getD i 0 = U.getD (a + i) 0 := by
  rw [List.getD_eq_getElem?_getD, List.getD_eq_getElem?_getD, List.getElem?_take_of_lt hi, List.getElem?_drop]
def p4 : Nat → Bool := span [(10, 11), (61, 100)]
set_option linter.unusedSimpArgs false in
set_option maxHeartbeats 2000000 in
set_option maxRecDepth 100000 in
theorem b6_law {c : Code} (hc : c = shaB 6) (A : Act) (R : Act → World → Prop) (w wr : World) (wb a cv : Nat) (Av : Option Addr) (U blk : List UInt8) (H : List Nat) (hAs : A.tmps.size = 330)
    (h5 : A.eval (.tmp 5) = .slice Av U.length cv) (h8 : A.eval (.tmp 8) = .slice (some ⟨wb, 0, none⟩) 64 64) (h9 : A.eval (.tmp 9) = .int .i64 a) (h10 : A.eval (.tmp 10) = .int .i64 (0 : Nat))
    (hw : W4 w wb U (.slice Av U.length cv) H blk 0 wr) (hU : U.length ≤ 1048576) (ha : a + 64 ≤ U.length) (hblk : blk = (U.drop a).take 64)
    (h : ∀ A' wr', Keep p4 A A' → W4 w wb U (.slice Av U.length cv) H blk 16 wr' → R A' wr') : c.wp Tryd.prog (only R) A wr := by
  subst hc
  conv => arg 2; whnf
  with_reducible refine o_for 16 (fun i B wx => Keep p4 A B ∧ B.eval (.tmp 10) = .int .i64 (i : Nat) ∧ W4 w wb U (.slice Av U.length cv) H blk i wx) ⟨Keep.refl _ _, h10, hw⟩ ?_ ?_
  · rintro k B wx hi ⟨hk, b10, hw4⟩
    have hBs := hk.size.trans hAs
    have b5 := (hk.ev 5 rfl).trans h5
    have b8 := (hk.ev 8 rfl).trans h8
    have b9 := (hk.ev 9 rfl).trans h9
    have Hw4 := Lib.hid hw4
    obtain ⟨hR, hwb, cs, hcs, hcs8, hrow⟩ := hw4
    have cr := blk_cells hcs
    have hsome : cs[k]? = some (cs[k]'(by omega)) := Array.getElem?_eq_getElem _
    have hcell : wx.cell? ⟨wb, k, none⟩ = some (cs[k]'(by omega)) := (cr.1 k).trans hsome
    have hfz := cr.2.1 k
    generalize cs[k]'(by omega) = old at *
    obtain ⟨A9, c9, he9, hbs⟩ := own_bs hR.m
    simp only [Value.slice.injEq] at he9
    obtain ⟨rfl, _, rfl⟩ := he9
    obtain ⟨bb, oo, rfl, e0⟩ := hbs.at_ (k := a + 4 * k) (by omega)
    obtain ⟨_, _, he1, e1⟩ := hbs.at_ (k := a + 4 * k + 1) (by omega)
    obtain ⟨_, _, he2, e2⟩ := hbs.at_ (k := a + 4 * k + 2) (by omega)
    obtain ⟨_, _, he3, e3⟩ := hbs.at_ (k := a + 4 * k + 3) (by omega)
    cases he1
    cases he2
    cases he3
    have hw : word blk k = (((U.getD (a + 4 * k) 0).toNat * 16777216 ||| (U.getD (a + 4 * k + 1) 0).toNat * 65536) ||| (U.getD (a + 4 * k + 2) 0).toNat * 256) ||| (U.getD (a + 4 * k + 3) 0).toNat := by
      rw [hblk]
      unfold word
      rw [cutD U a (by omega), cutD U a (by omega), cutD U a (by omega), cutD U a (by omega)]
      rfl
    have hv0 := (U.getD (a + 4 * k) 0).toNat_lt
    have hv1 := (U.getD (a + 4 * k + 1) 0).toNat_lt
    have hv2 := (U.getD (a + 4 * k + 2) 0).toNat_lt
    have hv3 := (U.getD (a + 4 * k + 3) 0).toNat_lt
    generalize (U.getD (a + 4 * k) 0).toNat = v0 at *
    generalize (U.getD (a + 4 * k + 1) 0).toNat = v1 at *
    generalize (U.getD (a + 4 * k + 2) 0).toNat = v2 at *
    generalize (U.getD (a + 4 * k + 3) 0).toNat = v3 at *
    have Hval : Hid (bits BinOp.or IntKind.u32 (bits BinOp.or IntKind.u32 (bits BinOp.or IntKind.u32 (IntKind.u32.wrap (IntKind.u32.wrap (v0 : Int) * 16777216)) (IntKind.u32.wrap (IntKind.u32.wrap (v1 : Int) * 65536))) (IntKind.u32.wrap (IntKind.u32.wrap (v2 : Int) * 256))) (IntKind.u32.wrap (v3 : Int)) = (word blk k : Nat)) := Lib.hid (by
      rw [hw]
      exact word_int hv0 hv1 hv2 hv3)
    have hk1 : (0 : Int) ≤ k := by omega
    have hk2 : (k : Int) < 64 := by omega
    have hk3 : (k : Int) < 16 := by omega
    obtain ⟨p, hp⟩ : ∃ p, p = a + 4 * k := ⟨_, rfl⟩
    have hpI : (a : Int) + 4 * (k : Int) = (p : Int) := by omega
    rw [← hp] at e0 e1 e2 e3
    have q0 : (0 : Int) ≤ p := by omega
    have q1 : (p : Int) + 3 < U.length := by omega
    have q2 : (p : Int) < U.length := by omega
    have q3 : (p : Int) + 1 < U.length := by omega
    have q4 : (p : Int) + 2 < U.length := by omega
    have n1 : (0 : Int) ≤ (p : Int) + 1 := by omega
    have n2 : (0 : Int) ≤ (p : Int) + 2 := by omega
    have n3 : (0 : Int) ≤ (p : Int) + 3 := by omega
    have g1 : IntKind.i64.wrap ((p : Int) + 1) = (p : Int) + 1 := by rw [IntKind.wrap_i64]; omega
    have g2 : IntKind.i64.wrap ((p : Int) + 2) = (p : Int) + 2 := by rw [IntKind.wrap_i64]; omega
    have g3 : IntKind.i64.wrap ((p : Int) + 3) = (p : Int) + 3 := by rw [IntKind.wrap_i64]; omega
    have g4 : ((p : Int) + 1).toNat = p + 1 := by omega
    have g5 : ((p : Int) + 2).toNat = p + 2 := by omega
    have g6 : ((p : Int) + 3).toNat = p + 3 := by omega
    have m1 : IntKind.i64.wrap (4 * (k : Int)) = 4 * (k : Int) := by rw [IntKind.wrap_i64]; omega
    have m2 : IntKind.i64.wrap (p : Int) = (p : Int) := by rw [IntKind.wrap_i64]; omega
    have m3 : IntKind.i64.wrap ((k : Int) + 1) = (k : Int) + 1 := by rw [IntKind.wrap_i64]; omega
    clear hblk hp hw hv0 hv1 hv2 hv3 hR hrow hcs hcs8 cr hsome hbs
    with_reducible refine o_list fun OPS => ?_
    iterate 2 (with_reducible refine l_val (v := ?_) (w' := ?_) ?_ ?_; rotate_left 2; (simp only [x_move, x_assign, x_load, x_store, x_bin, x_un, x_conv, x_indexAddr, x_index, x_call, ev_if, ev_const, ev_none, sz_put, hBs, b10, Nat.reduceLT, Nat.reduceEqDiff, if_true, if_false]; go_simp; first | done | rfl | (constructor <;> rfl)))
    with_reducible refine o_nil ⟨?_, ?_⟩
    · (simp only [x_move, x_assign, x_load, x_store, x_bin, x_un, x_conv, x_indexAddr, x_index, x_call, ev_if, ev_const, ev_none, sz_put, hBs, b10, Nat.reduceLT, Nat.reduceEqDiff, if_true, if_false]; first | done | rfl)
    with_reducible refine o_seq ?_
    with_reducible refine o_list fun OPS => ?_
    iterate 5 (with_reducible refine l_val (v := ?_) (w' := ?_) ?_ ?_; rotate_left 2; (simp only [x_move, x_assign, x_load, x_store, x_bin, x_un, x_conv, x_indexAddr, x_index, x_call, ev_if, ev_const, ev_none, sz_put, hBs, b9, b10, hpI, m1, m2, Nat.reduceLT, Nat.reduceEqDiff, if_true, if_false]; go_simp; first | done | rfl | (constructor <;> rfl)))
    with_reducible refine o_nil ?_
    with_reducible refine region_still_tail 32 (by kernel_rfl) (by kernel_rfl) ?_
    intro OPS
    simp only [List.take_succ_cons, List.take_zero, List.drop_succ_cons, List.drop_zero]
    iterate 32 (with_reducible refine s_val (v := ?_) ?_ ?_; rotate_left; (simp only [x_move, x_assign, x_load, x_store, x_bin, x_un, x_conv, x_indexAddr, x_index, x_call, ev_if, ev_const, ev_none, sz_put, hBs, b5, b8, b9, b10, hpI, m1, m2, Nat.reduceLT, Nat.reduceEqDiff, if_true, if_false]; go_simp; first | done | rfl | (constructor <;> rfl)))
    with_reducible refine wpStill_nil ?_
    with_reducible refine l_skip (w' := ?_) ?_ ?_; rotate_left; (simp only [x_move, x_assign, x_load, x_store, x_bin, x_un, x_conv, x_indexAddr, x_index, x_call, ev_if, ev_const, ev_none, sz_put, hBs, Hval.out, Nat.reduceLT, Nat.reduceEqDiff, if_true, if_false]; go_simp; first | done | rfl | (constructor <;> rfl))
    with_reducible refine o_nil ?_
    with_reducible refine o_list fun OPS => ?_
    iterate 3 (with_reducible refine l_val (v := ?_) (w' := ?_) ?_ ?_; rotate_left 2; (simp only [x_move, x_assign, x_load, x_store, x_bin, x_un, x_conv, x_indexAddr, x_index, x_call, ev_if, ev_const, ev_none, sz_put, hBs, b10, Nat.reduceLT, Nat.reduceEqDiff, if_true, if_false]; go_simp; first | done | rfl | (constructor <;> rfl)))
    with_reducible refine o_nil ⟨?_, ?_, ?_⟩
    · with_reducible repeat (first | exact hk | refine Keep.put rfl ?_ | refine Keep.putN ?_)
    · (simp only [x_move, x_assign, x_load, x_store, x_bin, x_un, x_conv, x_indexAddr, x_index, x_call, ev_if, ev_const, ev_none, sz_put, hBs, Nat.reduceLT, Nat.reduceEqDiff, if_true, if_false]; first | done | rfl)
    · have hs := (Hw4.out.step (by omega : k < 64)).drewN 1
      rw [show nextW blk (sched blk k) = word blk k by unfold nextW; rw [sched_length, if_pos hi]] at hs
      exact hs
  · rintro B wx ⟨hk, b10, hw4⟩
    have hBs := hk.size.trans hAs
    with_reducible refine o_list fun OPS => ?_
    iterate 2 (with_reducible refine l_val (v := ?_) (w' := ?_) ?_ ?_; rotate_left 2; (simp only [x_move, x_assign, x_load, x_store, x_bin, x_un, x_conv, x_indexAddr, x_index, x_call, ev_if, ev_const, ev_none, sz_put, hBs, b10, Nat.reduceLT, Nat.reduceEqDiff, if_true, if_false]; go_simp; first | done | rfl | (constructor <;> rfl)))
    with_reducible refine o_nil ⟨?_, ?_⟩
    · (simp only [x_move, x_assign, x_load, x_store, x_bin, x_un, x_conv, x_indexAddr, x_index, x_call, ev_if, ev_const, ev_none, sz_put, hBs, b10, Nat.reduceLT, Nat.reduceEqDiff, if_true, if_false]; first | done | rfl)
    refine h _ _ ?_ hw4
    with_reducible repeat (first | exact hk | refine Keep.put rfl ?_ | refine Keep.putN ?_)
end Go.Proofs.YtfbdjfljgcfikaaDoor
