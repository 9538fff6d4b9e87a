/-
  SHA-256 of the reference: the loop over the blocks. (Printed by wip/abexp.py.)
-/
import Derived.Test.YtfbdjfljgcfikaaDoorArkShR3
namespace Go.Proofs.YtfbdjfljgcfikaaDoor
open Go.RowKit

theorem infoU32' : (Tryd.prog.info? 58).map (fun i => (i.zero, i.size, i.bytes)) = some (some (.int .u32 0), 1, 4) := by kernel_rfl
theorem build0 : ∀ w : World, (Instr.buildSlice 92 0 #[]).run Tryd.prog w = .ok (.slice (some ⟨w.heap.size, 0, none⟩) 0 0) (w.alloc (.cells #[] 58)) := fun _ => by kernel_rfl
theorem W4.below {w wr wx : World} {wb : Nat} {P blk : List UInt8} {v : Value} {H : List Nat} {k : Nat} (h : W4 w wb P v H blk k wr) (hb : Below wr.heap.size wr wx) : W4 w wb P v H blk k wx := by
  obtain ⟨hR, hwb, cs, hcs, hs, hrow⟩ := h
  exact ⟨⟨hR.below.trans (hb.mono hR.below.size), (hb.block _ (lt_of_heap hR.k)).trans hR.k, (hb.block _ (lt_of_heap hR.h)).trans hR.h, own_keep hR.m fun g c hg => (hb.block g (lt_of_heap hg)).trans hg⟩, hwb, cs, (hb.block _ (lt_of_heap hcs)).trans hcs, hs, hrow⟩
theorem W4.fresh {w wr : World} {wb : Nat} {P blk blk' : List UInt8} {v : Value} {H : List Nat} {k : Nat} (h : W4 w wb P v H blk k wr) : W4 w wb P v H blk' 0 wr := by
  obtain ⟨hR, hwb, cs, hcs, hs, _⟩ := h
  exact ⟨hR, hwb, cs, hcs, hs, fun j hj => by omega⟩
theorem u32s_at8 {H : List Nat} {wx : World} {t : TypeId} {g : Nat} (h : wx.heap[g]? = some (.cells (u32s H).toArray t (0, 0))) : ∀ j u, (u32s H)[j]? = some u → wx.cell? ((⟨g, 0, none⟩ : Addr).add j) = some u := by
  intro j u hu
  rw [Addr.add_lit, Nat.zero_add]
  exact ((blk_cells h).1 j).trans (by rw [List.getElem?_toArray]; exact hu)
theorem u32s_cells (l : List Nat) : ∀ u ∈ u32s l, u.oneCell' = true := by
  intro u hu
  simp only [u32s, List.mem_map] at hu
  obtain ⟨x, _, rfl⟩ := hu
  rfl
theorem row8_of_own {w : World} {base : Nat} {v : Value} {H : List Nat} (hH : H.length = 8) (h : w.ownsRow base 58 1 v 8 (u32s H)) : Row8 base v H w := by
  obtain ⟨_, ⟨_, h0⟩ | ⟨g, cap, cur, rfl, hg, hh, hn, hm, hs, htk⟩⟩ := h
  · omega
  · refine ⟨g, cap, cur, hg, rfl, hh, fun j hj => ?_⟩
    have : (u32s H)[j]? = some (.int .u32 (H.getD j 0 : Nat)) := by
      rw [u32s, List.getElem?_map, List.getD_eq_getElem?_getD, List.getElem?_eq_getElem (by omega)]; rfl
    rw [← htk, List.getElem?_take_of_lt (by omega)] at this
    rw [← this, Array.getElem?_toList]
def pB : Nat → Bool := span [(9, 22), (55, 298)]
set_option linter.unusedSimpArgs false in
set_option maxHeartbeats 4000000 in
set_option maxRecDepth 100000 in
theorem b4_law {c : Code} (hc : c = shaB 4) (A : Act) (R : Act → World → Prop) (w wr : World) (wb m cv : Nat) (Av : Option Addr) (U : List UInt8) (hAs : A.tmps.size = 330) (hU : U.length = 64 * m) (hUl : U.length ≤ 1048576)
    (h3 : A.eval (.tmp 3) = .slice (some ⟨w.heap.size, 0, none⟩) 64 64) (h4 : A.eval (.tmp 4) = .slice (some ⟨w.heap.size + 1, 0, none⟩) 8 8) (h5 : A.eval (.tmp 5) = .slice Av U.length cv)
    (h8 : A.eval (.tmp 8) = .slice (some ⟨wb, 0, none⟩) 64 64) (h9 : A.eval (.tmp 9) = .int .i64 (0 : Nat))
    (hw : W4 w wb U (.slice Av U.length cv) shaH [] 0 wr)
    (h : ∀ A' wr', Keep pB A A' → W4 w wb U (.slice Av U.length cv) (blocks shaH U m) [] 0 wr' → R A' wr') : c.wp Tryd.prog (only R) A wr := by
  obtain ⟨i0, hi0, hz0, hz1, hz2⟩ := info_parts infoU32'
  subst hc
  conv => arg 2; whnf
  with_reducible refine o_for m (fun j B wx => Keep pB A B ∧ B.eval (.tmp 9) = .int .i64 ((64 * j : Nat) : Int) ∧ W4 w wb U (.slice Av U.length cv) (blocks shaH U j) [] 0 wx) ⟨Keep.refl _ _, h9, ?_⟩ ?_ ?_
  · exact hw
  · rintro j B wx hi ⟨hk, b9, hw4⟩
    have hBs := hk.size.trans hAs
    have b5 := (hk.ev 5 rfl).trans h5
    have b8 := (hk.ev 8 rfl).trans h8
    have Hw4 := Lib.hid hw4
    clear hw4
    obtain ⟨a, ha⟩ : ∃ a, a = 64 * j := ⟨_, rfl⟩
    rw [← ha] at b9
    have Ha := Lib.hid ha
    obtain ⟨H, hH⟩ : ∃ H, H = blocks shaH U j := ⟨_, rfl⟩
    have hH8 : H.length = 8 := by rw [hH]; exact blocks_length _ _ rfl _
    have hHf : Fit H := by rw [hH]; exact blocks_fit shaH_fit _ _
    obtain ⟨blk, hblk⟩ : ∃ blk, blk = (U.drop a).take 64 := ⟨_, rfl⟩
    have hnext : blocks shaH U (j + 1) = compress H blk := by rw [blocks, ← hH, hblk, ← ha]
    have Hnext := Lib.hid hnext
    have HU := Lib.hid hU
    have HUl := Lib.hid hUl
    have hal : a + 64 ≤ U.length := by omega
    have HH8 := Lib.hid hH8
    rw [← hH] at Hw4
    have hlt : a < U.length := by omega
    have hltI : (a : Int) < U.length := by omega
    have hge : (0 : Int) ≤ a := by omega
    have m3 : IntKind.i64.wrap ((a : Int) + 64) = (a : Int) + 64 := by rw [IntKind.wrap_i64]; omega
    clear hnext ha hH hU hUl hH8 hi
    with_reducible refine o_list fun OPS => ?_
    iterate 4 (with_reducible refine l_val (v := ?_) (w' := ?_) ?_ ?_; rotate_left 2; (simp only [x_move, x_assign, x_load, x_store, x_bin, x_un, x_conv, x_indexAddr, x_index, x_call, ev_if, ev_const, ev_none, sz_put, hBs, b9, b5, Nat.reduceLT, Nat.reduceEqDiff, if_true, if_false]; go_simp; first | done | rfl | (constructor <;> rfl)))
    with_reducible refine o_nil ⟨?_, ?_⟩
    · (simp only [x_move, x_assign, x_load, x_store, x_bin, x_un, x_conv, x_indexAddr, x_index, x_call, ev_if, ev_const, ev_none, sz_put, hBs, b9, b5, Nat.reduceLT, Nat.reduceEqDiff, if_true, if_false]; first | done | rfl)
    with_reducible repeat refine o_seq ?_
    with_reducible refine o_list fun OPS => ?_
    iterate 1 (with_reducible refine l_val (v := ?_) (w' := ?_) ?_ ?_; rotate_left 2; (simp only [x_move, x_assign, x_load, x_store, x_bin, x_un, x_conv, x_indexAddr, x_index, x_call, ev_if, ev_const, ev_none, sz_put, hBs, Nat.reduceLT, Nat.reduceEqDiff, if_true, if_false]; go_simp; first | done | rfl | (constructor <;> rfl)))
    with_reducible refine o_nil ?_
    refine b6_law (by kernel_rfl) _ _ w wx wb a cv Av U blk H ?_ ?_ ?_ ?_ ?_ Hw4.out.fresh HUl.out hal hblk ?_
    · (simp only [x_move, x_assign, x_load, x_store, x_bin, x_un, x_conv, x_indexAddr, x_index, x_call, ev_if, ev_const, ev_none, sz_put, hBs, Nat.reduceLT, Nat.reduceEqDiff, if_true, if_false]; first | done | rfl)
    · (simp only [x_move, x_assign, x_load, x_store, x_bin, x_un, x_conv, x_indexAddr, x_index, x_call, ev_if, ev_const, ev_none, sz_put, hBs, b5, Nat.reduceLT, Nat.reduceEqDiff, if_true, if_false]; first | done | rfl)
    · (simp only [x_move, x_assign, x_load, x_store, x_bin, x_un, x_conv, x_indexAddr, x_index, x_call, ev_if, ev_const, ev_none, sz_put, hBs, b8, Nat.reduceLT, Nat.reduceEqDiff, if_true, if_false]; first | done | rfl)
    · (simp only [x_move, x_assign, x_load, x_store, x_bin, x_un, x_conv, x_indexAddr, x_index, x_call, ev_if, ev_const, ev_none, sz_put, hBs, b9, Nat.reduceLT, Nat.reduceEqDiff, if_true, if_false]; first | done | rfl)
    · (simp only [x_move, x_assign, x_load, x_store, x_bin, x_un, x_conv, x_indexAddr, x_index, x_call, ev_if, ev_const, ev_none, sz_put, hBs, Nat.reduceLT, Nat.reduceEqDiff, if_true, if_false]; first | done | rfl)
    intro B6 w6 hk6 hw6
    have hB6k := (((show Keep pB B _ by with_reducible repeat (first | exact Keep.refl _ _ | refine Keep.put rfl ?_ | refine Keep.putN ?_))).trans (hk6.mono (by intro j hj; simp [p4, pB, span] at hj ⊢; omega)))
    have hs6 := hB6k.size.trans hBs
    have c8 := (hk6.ev 8 rfl).trans (show _ = Value.slice (some ⟨wb, 0, none⟩) 64 64 by (simp only [x_move, x_assign, x_load, x_store, x_bin, x_un, x_conv, x_indexAddr, x_index, x_call, ev_if, ev_const, ev_none, sz_put, hBs, b8, Nat.reduceLT, Nat.reduceEqDiff, if_true, if_false]; first | done | rfl))
    with_reducible repeat refine o_seq ?_
    with_reducible refine o_list fun OPS => ?_
    iterate 1 (with_reducible refine l_val (v := ?_) (w' := ?_) ?_ ?_; rotate_left 2; (simp only [x_move, x_assign, x_load, x_store, x_bin, x_un, x_conv, x_indexAddr, x_index, x_call, ev_if, ev_const, ev_none, sz_put, hs6, Nat.reduceLT, Nat.reduceEqDiff, if_true, if_false]; go_simp; first | done | rfl | (constructor <;> rfl)))
    with_reducible refine o_nil ?_
    refine b8_law (by kernel_rfl) _ _ w w6 wb (.slice Av U.length cv) U blk H ?_ ?_ ?_ hw6 ?_
    · (simp only [x_move, x_assign, x_load, x_store, x_bin, x_un, x_conv, x_indexAddr, x_index, x_call, ev_if, ev_const, ev_none, sz_put, hs6, Nat.reduceLT, Nat.reduceEqDiff, if_true, if_false]; first | done | rfl)
    · (simp only [x_move, x_assign, x_load, x_store, x_bin, x_un, x_conv, x_indexAddr, x_index, x_call, ev_if, ev_const, ev_none, sz_put, hs6, c8, Nat.reduceLT, Nat.reduceEqDiff, if_true, if_false]; first | done | rfl)
    · (simp only [x_move, x_assign, x_load, x_store, x_bin, x_un, x_conv, x_indexAddr, x_index, x_call, ev_if, ev_const, ev_none, sz_put, hs6, Nat.reduceLT, Nat.reduceEqDiff, if_true, if_false]; first | done | rfl)
    intro B8 w8 hk8 hw8
    have hB8k := (((show Keep pB B6 _ by with_reducible repeat (first | exact Keep.refl _ _ | refine Keep.put rfl ?_ | refine Keep.putN ?_))).trans (hk8.mono (by intro j hj; simp [p8, pB, span] at hj ⊢; omega)))
    have hs8 := hB8k.size.trans hs6
    have Hw8 := Lib.hid hw8
    have hsz8 := hw8.1.size
    have hown0 : Hid ((w8.alloc (.cells #[] 58)).ownsRow w8.heap.size 58 1 (.slice (some ⟨w8.heap.size, 0, none⟩) 0 0) 0 []) := Lib.hid (World.ownsRow_made w8 #[] 0 (Nat.le_refl _) (by simp) (by simp))
    have hcells := Lib.hid (u32s_at8 ((hw8.alloc (.cells #[] 58)).1.h))
    have d4 := (hB8k.ev 4 rfl).trans ((hB6k.ev 4 rfl).trans ((hk.ev 4 rfl).trans h4))
    have hb0 := build0
    clear hw8 hw6
    with_reducible repeat refine o_seq ?_
    with_reducible refine o_list fun OPS => ?_
    iterate 1 (with_reducible refine l_val (v := ?_) (w' := ?_) ?_ ?_; rotate_left 2; (simp only [x_move, x_assign, x_load, x_store, x_bin, x_un, x_conv, x_indexAddr, x_index, x_call, ev_if, ev_const, ev_none, sz_put, hs8, x_build, hb0, Nat.reduceLT, Nat.reduceEqDiff, if_true, if_false]; go_simp; first | done | rfl | (constructor <;> rfl)))
    iterate 1 (with_reducible refine l_val (v := ?_) (w' := ?_) ?_ ?_; rotate_left 2; (simp only [x_move, x_assign, x_load, x_store, x_bin, x_un, x_conv, x_indexAddr, x_index, x_call, ev_if, ev_const, ev_none, sz_put, hs8, d4, Nat.reduceLT, Nat.reduceEqDiff, if_true, if_false]; go_simp; first | done | rfl | (constructor <;> rfl)))
    refine wpList_append_own _ rfl (.tmp 163) (.tmp 164) 92 rfl w8.heap.size 58 i0 (.int .u32 0) 1 4 Tryd.underlying92 hi0 hz0 hz1 hz2 rfl (by omega) (.slice (some ⟨w8.heap.size, 0, none⟩) 0 0) 0 [] ?_ hown0.out ⟨w.heap.size + 1, 0, none⟩ 8 8 (u32s H) ?_ (by rw [u32s, List.length_map, HH8.out]) hcells.out (u32s_cells H) (by unfold maxLen; omega) (by omega) (by simp) ?_
    · (simp only [x_move, x_assign, x_load, x_store, x_bin, x_un, x_conv, x_indexAddr, x_index, x_call, ev_if, ev_const, ev_none, sz_put, hs8, Nat.reduceLT, Nat.reduceEqDiff, if_true, if_false]; first | done | rfl)
    · (simp only [x_move, x_assign, x_load, x_store, x_bin, x_un, x_conv, x_indexAddr, x_index, x_call, ev_if, ev_const, ev_none, sz_put, hs8, d4, Nat.reduceLT, Nat.reduceEqDiff, if_true, if_false]; first | done | rfl)
    intro v9 w9 hown9 hgrow9 _
    have hbel : Below w8.heap.size w8 w9 := ((Below.refl w8.heap.size w8).alloc (Nat.le_refl _) _).grown hgrow9 (by simp) (by intro k hk; cases hk; exact Nat.le_refl _)
    have Hw9 := Lib.hid (Hw8.out.below hbel)
    have Hr9 : Hid (Row8 (w.heap.size + 2) v9 H w9) := Lib.hid (by
      have := row8_of_own HH8.out (by simpa using hown9)
      obtain ⟨vb, cv', cs, q1, q2⟩ := this
      exact ⟨vb, cv', cs, by omega, q2⟩)
    clear hown9 hgrow9 hbel Hw8 hown0 hcells
    iterate 1 (with_reducible refine l_val (v := ?_) (w' := ?_) ?_ ?_; rotate_left 2; (simp only [x_move, x_assign, x_load, x_store, x_bin, x_un, x_conv, x_indexAddr, x_index, x_call, ev_if, ev_const, ev_none, sz_put, hs8, Nat.reduceLT, Nat.reduceEqDiff, if_true, if_false]; go_simp; first | done | rfl | (constructor <;> rfl)))
    with_reducible refine o_nil ?_
    with_reducible repeat refine o_seq ?_
    with_reducible refine o_list fun OPS => ?_
    iterate 1 (with_reducible refine l_val (v := ?_) (w' := ?_) ?_ ?_; rotate_left 2; (simp only [x_move, x_assign, x_load, x_store, x_bin, x_un, x_conv, x_indexAddr, x_index, x_call, ev_if, ev_const, ev_none, sz_put, hs8, Nat.reduceLT, Nat.reduceEqDiff, if_true, if_false]; go_simp; first | done | rfl | (constructor <;> rfl)))
    with_reducible refine o_nil ?_
    have d3 := (hB8k.ev 3 rfl).trans ((hB6k.ev 3 rfl).trans ((hk.ev 3 rfl).trans h3))
    have d8 := (hk8.ev 8 rfl).trans (show _ = Value.slice (some ⟨wb, 0, none⟩) 64 64 by (simp only [x_move, x_assign, x_load, x_store, x_bin, x_un, x_conv, x_indexAddr, x_index, x_call, ev_if, ev_const, ev_none, sz_put, hs6, c8, Nat.reduceLT, Nat.reduceEqDiff, if_true, if_false]; first | done | rfl))
    refine b10_law (by kernel_rfl) _ _ w w9 wb (.slice Av U.length cv) U blk H ?_ HH8.out hHf ?_ ?_ ?_ ?_ ?_
    · (simp only [x_move, x_assign, x_load, x_store, x_bin, x_un, x_conv, x_indexAddr, x_index, x_call, ev_if, ev_const, ev_none, sz_put, hs8, Nat.reduceLT, Nat.reduceEqDiff, if_true, if_false]; first | done | rfl)
    · (simp only [x_move, x_assign, x_load, x_store, x_bin, x_un, x_conv, x_indexAddr, x_index, x_call, ev_if, ev_const, ev_none, sz_put, hs8, d3, Nat.reduceLT, Nat.reduceEqDiff, if_true, if_false]; first | done | rfl)
    · (simp only [x_move, x_assign, x_load, x_store, x_bin, x_un, x_conv, x_indexAddr, x_index, x_call, ev_if, ev_const, ev_none, sz_put, hs8, d8, Nat.reduceLT, Nat.reduceEqDiff, if_true, if_false]; first | done | rfl)
    · (simp only [x_move, x_assign, x_load, x_store, x_bin, x_un, x_conv, x_indexAddr, x_index, x_call, ev_if, ev_const, ev_none, sz_put, hs8, Nat.reduceLT, Nat.reduceEqDiff, if_true, if_false]; first | done | rfl)
    · refine ⟨Hw9.out, ?_⟩
      have := Hr9.out
      simp only [ev_if, ev_const, sz_put, hs8, Nat.reduceLT, Nat.reduceEqDiff, if_true, if_false]
      exact this
    intro B10 w10 hk10 hw10
    have hB10k := (((show Keep pB B8 _ by with_reducible repeat (first | exact Keep.refl _ _ | refine Keep.put rfl ?_ | refine Keep.putN ?_))).trans (hk10.mono (by intro j hj; simp [p10, pB, span] at hj ⊢; omega)))
    have hs10 := hB10k.size.trans hs8
    have e4 := (hB10k.ev 4 rfl).trans d4
    with_reducible repeat refine o_seq ?_
    with_reducible refine o_list fun OPS => ?_
    iterate 1 (with_reducible refine l_val (v := ?_) (w' := ?_) ?_ ?_; rotate_left 2; (simp only [x_move, x_assign, x_load, x_store, x_bin, x_un, x_conv, x_indexAddr, x_index, x_call, ev_if, ev_const, ev_none, sz_put, hs10, Nat.reduceLT, Nat.reduceEqDiff, if_true, if_false]; go_simp; first | done | rfl | (constructor <;> rfl)))
    with_reducible refine o_nil ?_
    refine b12_law (by kernel_rfl) _ _ w w10 wb 64 (.slice Av U.length cv) U blk H (rounds (sched blk 64) H 64) ?_ HH8.out (rounds_length _ _ HH8.out _) ?_ ?_ hw10.1 ?_ ?_
    · (simp only [x_move, x_assign, x_load, x_store, x_bin, x_un, x_conv, x_indexAddr, x_index, x_call, ev_if, ev_const, ev_none, sz_put, hs10, Nat.reduceLT, Nat.reduceEqDiff, if_true, if_false]; first | done | rfl)
    · (simp only [x_move, x_assign, x_load, x_store, x_bin, x_un, x_conv, x_indexAddr, x_index, x_call, ev_if, ev_const, ev_none, sz_put, hs10, e4, Nat.reduceLT, Nat.reduceEqDiff, if_true, if_false]; first | done | rfl)
    · (simp only [x_move, x_assign, x_load, x_store, x_bin, x_un, x_conv, x_indexAddr, x_index, x_call, ev_if, ev_const, ev_none, sz_put, hs10, Nat.reduceLT, Nat.reduceEqDiff, if_true, if_false]; first | done | rfl)
    · have := hw10.2
      simp only [ev_if, ev_const, sz_put, hs10, Nat.reduceLT, Nat.reduceEqDiff, if_true, if_false]
      exact this
    intro B12 w12 hk12 hw12
    have hB12k := (((show Keep pB B10 _ by with_reducible repeat (first | exact Keep.refl _ _ | refine Keep.put rfl ?_ | refine Keep.putN ?_))).trans (hk12.mono (by intro j hj; simp [p12, pB, span] at hj ⊢; omega)))
    have hs12 := hB12k.size.trans hs10
    have e9 := (hk12.ev 9 rfl).trans (show _ = Value.int .i64 (a : Int) by simp only [ev_if, ev_const, sz_put, hs10, Nat.reduceLT, Nat.reduceEqDiff, if_true, if_false]; refine (hk10.ev 9 rfl).trans ?_; simp only [ev_if, ev_const, sz_put, hs8, Nat.reduceLT, Nat.reduceEqDiff, if_true, if_false]; refine (hk8.ev 9 rfl).trans ?_; simp only [ev_if, ev_const, sz_put, hs6, Nat.reduceLT, Nat.reduceEqDiff, if_true, if_false]; refine (hk6.ev 9 rfl).trans ?_; simp only [ev_if, ev_const, sz_put, hBs, Nat.reduceLT, Nat.reduceEqDiff, if_true, if_false]; exact b9)
    have Hw12 := Lib.hid hw12
    clear hw12 hw10
    with_reducible refine o_list fun OPS => ?_
    iterate 3 (with_reducible refine l_val (v := ?_) (w' := ?_) ?_ ?_; rotate_left 2; (simp only [x_move, x_assign, x_load, x_store, x_bin, x_un, x_conv, x_indexAddr, x_index, x_call, ev_if, ev_const, ev_none, sz_put, hs12, e9, Nat.reduceLT, Nat.reduceEqDiff, if_true, if_false]; go_simp; first | done | rfl | (constructor <;> rfl)))
    with_reducible refine o_nil ⟨?_, ?_, ?_⟩
    · have := ((((hk.trans hB6k).trans hB8k).trans hB10k).trans hB12k)
      with_reducible repeat (first | exact this | refine Keep.put rfl ?_ | refine Keep.putN ?_)
    · simp only [ev_if, ev_const, sz_put, hs12, Nat.reduceLT, Nat.reduceEqDiff, if_true, if_false]
      rw [Ha.out]
      rfl
    · rw [Hnext.out]
      exact Hw12.out.fresh
  · rintro B wx ⟨hk, b9, hw4⟩
    have hBs := hk.size.trans hAs
    have b5 := (hk.ev 5 rfl).trans h5
    have Hw4 := Lib.hid hw4
    clear hw4
    have hnl : ¬ ((64 * m : Nat) : Int) < U.length := by omega
    with_reducible refine o_list fun OPS => ?_
    iterate 4 (with_reducible refine l_val (v := ?_) (w' := ?_) ?_ ?_; rotate_left 2; (simp only [x_move, x_assign, x_load, x_store, x_bin, x_un, x_conv, x_indexAddr, x_index, x_call, ev_if, ev_const, ev_none, sz_put, hBs, b9, b5, Nat.reduceLT, Nat.reduceEqDiff, if_true, if_false]; go_simp; first | done | rfl | (constructor <;> rfl)))
    with_reducible refine o_nil ⟨?_, ?_⟩
    · (simp only [x_move, x_assign, x_load, x_store, x_bin, x_un, x_conv, x_indexAddr, x_index, x_call, ev_if, ev_const, ev_none, sz_put, hBs, b9, b5, Nat.reduceLT, Nat.reduceEqDiff, if_true, if_false]; first | done | rfl)
    refine h _ _ ?_ Hw4.out
    with_reducible repeat (first | exact hk | refine Keep.put rfl ?_ | refine Keep.putN ?_)
end Go.Proofs.YtfbdjfljgcfikaaDoor
