/-
  SHA-256 of the reference: the loop that adds a block's numbers to the state, and the one that lays the state's bytes. (Printed by wip/abexp.py.)
-/
import Derived.Test.YtfbdjfljgcfikaaDoorArkShR2
import Derived.Test.YtfbdjfljgcfikaaDoorArkBlk0
import Derived.Test.YtfbdjfljgcfikaaDoorArkSha
import Derived.Test.YtfbdjfljgcfikaaDoorAbH
namespace Go.Proofs.YtfbdjfljgcfikaaDoor
open Go.RowKit

theorem x_build (ρ : Operand → Value) (d : Option Tmp) (ty : TypeId) (pos : String) (af : Array Edge) (g : Option (Nat × Bool)) (t : TypeId) (n : Nat) (ps : Array (Nat × Operand)) : execOp ρ { dst := d, op := .buildSlice t n ps, type := ty, pos := pos, after := af, guard := g } = (do pure (.value (← Instr.buildSlice t n (ps.map fun (i, x) => (i, ρ x))))) := rfl
/-- eight numbers in a block of their own -/
def Row8 (b : Nat) (v : Value) (x : List Nat) (wx : World) : Prop := ∃ vb cv cs, b ≤ vb ∧ v = .slice (some ⟨vb, 0, none⟩) 8 cv ∧ wx.heap[vb]? = some (.cells cs 58 (0, 0)) ∧ ∀ j, j < 8 → cs[j]? = some (.int .u32 (x.getD j 0 : Nat))
theorem Row8.drewN {b : Nat} {v : Value} {x : List Nat} {wx : World} (h : Row8 b v x wx) (n : Nat) : Row8 b v x (wx.drewN n) := h
def adds (H x : List Nat) (k : Nat) : List Nat := (List.zipWith add32 x H).take k ++ H.drop k
theorem adds_zero (H x : List Nat) : adds H x 0 = H := by simp [adds]
theorem adds_all {H x : List Nat} (hH : H.length = 8) (hx : x.length = 8) : adds H x 8 = List.zipWith add32 x H := by
  unfold adds
  rw [List.take_of_length_le (by rw [List.length_zipWith]; omega), List.drop_of_length_le (by omega), List.append_nil]
theorem adds_length {H x : List Nat} (hH : H.length = 8) (hx : x.length = 8) {k : Nat} (hk : k ≤ 8) : (adds H x k).length = 8 := by
  unfold adds
  rw [List.length_append, List.length_take, List.length_drop, List.length_zipWith]
  omega
theorem adds_get {H x : List Nat} (hH : H.length = 8) (hx : x.length = 8) {k i : Nat} (hk : k ≤ 8) (hi : i < 8) : (adds H x k)[i]? = some (if i < k then add32 (x.getD i 0) (H.getD i 0) else H.getD i 0) := by
  have e1 : x[i]? = some (x.getD i 0) := by rw [List.getD_eq_getElem?_getD, List.getElem?_eq_getElem (by omega)]; rfl
  have e2 : H[i]? = some (H.getD i 0) := by rw [List.getD_eq_getElem?_getD, List.getElem?_eq_getElem (by omega)]; rfl
  have hz : (List.zipWith add32 x H).length = 8 := by rw [List.length_zipWith]; omega
  unfold adds
  by_cases h : i < k
  · rw [if_pos h, List.getElem?_append_left (by rw [List.length_take]; omega), List.getElem?_take_of_lt h, List.getElem?_zipWith, e1, e2]
  · rw [if_neg h, List.getElem?_append_right (by rw [List.length_take]; omega), List.getElem?_drop, List.length_take, show k + (i - min k (List.zipWith add32 x H).length) = i by omega, e2]
theorem adds_at {H x : List Nat} (hH : H.length = 8) (hx : x.length = 8) {k : Nat} (hk : k < 8) : (u32s (adds H x k))[k]? = some (.int .u32 (H.getD k 0 : Nat)) := by
  unfold u32s
  rw [List.getElem?_map, adds_get hH hx (by omega) hk, if_neg (by omega)]
  rfl
theorem adds_set {H x : List Nat} (hH : H.length = 8) (hx : x.length = 8) {k : Nat} (hk : k < 8) : (u32s (adds H x k)).set k (.int .u32 (add32 (x.getD k 0) (H.getD k 0) : Nat)) = u32s (adds H x (k + 1)) := by
  have e1 : (u32s (adds H x k)).set k (.int .u32 (add32 (x.getD k 0) (H.getD k 0) : Nat)) = u32s ((adds H x k).set k (add32 (x.getD k 0) (H.getD k 0))) := by
    unfold u32s
    rw [List.map_set]
  rw [e1]
  congr 1
  apply List.ext_getElem?
  intro i
  by_cases hi : i < 8
  · rw [List.getElem?_set, adds_get hH hx (by omega) hi]
    by_cases he : k = i
    · subst he
      rw [if_pos rfl, if_pos (by rw [adds_length hH hx (by omega)]; exact hi), adds_get hH hx (by omega) hi, if_pos (by omega)]
    · rw [if_neg he, adds_get hH hx (by omega) hi]
      congr 1
      by_cases h2 : i < k
      · rw [if_pos h2, if_pos (by omega)]
      · rw [if_neg h2, if_neg (by omega)]
  · rw [List.getElem?_eq_none (by rw [List.length_set, adds_length hH hx (by omega)]; omega), List.getElem?_eq_none (by rw [adds_length hH hx (by omega)]; omega)]
theorem W4.setH {w wr : World} {wb : Nat} {P blk : List UInt8} {v : Value} {H x : List Nat} {k n : Nat} (hH : H.length = 8) (hx : x.length = 8) (hk : k < 8) (h : W4 w wb P v (adds H x k) blk n wr) :
    W4 w wb P v (adds H x (k + 1)) blk n (wr.setCell ⟨w.heap.size + 1, k, none⟩ (.int .u32 (add32 (x.getD k 0) (H.getD k 0) : Nat))) := by
  obtain ⟨hR, hb, cs, hcs, hs, hrow⟩ := h
  have hsz := hR.size
  have hf : Fr [w.heap.size + 1] wr (wr.setCell ⟨w.heap.size + 1, k, none⟩ (.int .u32 (add32 (x.getD k 0) (H.getD k 0) : Nat))) := Fr.setCell _ _ _ _ (by simp)
  have hlw := lt_of_heap hcs
  refine ⟨⟨hR.below.trans (hf.below hR.below.size (by simp)), (hf.block _ (by omega) (by simp)).trans hR.k, ?_, own_keep hR.m fun g c hg => (hf.block g (lt_of_heap hg) ?_).trans hg⟩, hb, cs, (hf.block _ hlw (by simp; omega)).trans hcs, hs, hrow⟩
  · rw [heap_setCell_at hR.h, List.setIfInBounds_toArray, adds_set hH hx hk]
  · simp only [List.mem_singleton]
    rintro rfl
    have := hR.h
    rw [hg] at this
    simp at this
theorem Row8.setH {b : Nat} {v : Value} {x : List Nat} {wx : World} (h : Row8 b v x wx) {g : Nat} (hg : g < b) (k : Nat) (u : Value) : Row8 b v x (wx.setCell ⟨g, k, none⟩ u) := by
  obtain ⟨vb, cv, cs, h1, h2, h3, h4⟩ := h
  exact ⟨vb, cv, cs, h1, h2, ((Fr.setCell [g] wx ⟨g, k, none⟩ u (by simp)).block _ (lt_of_heap h3) (by simp; omega)).trans h3, h4⟩
def p12 : Nat → Bool := span [(22, 22), (283, 298)]
set_option linter.unusedSimpArgs false in
set_option maxHeartbeats 4000000 in
set_option maxRecDepth 100000 in
theorem b12_law {c : Code} (hc : c = shaB 12) (A : Act) (R : Act → World → Prop) (w wr : World) (wb n : Nat) (v : Value) (U blk : List UInt8) (H x : List Nat) (hAs : A.tmps.size = 330) (hH : H.length = 8) (hx : x.length = 8)
    (h4 : A.eval (.tmp 4) = .slice (some ⟨w.heap.size + 1, 0, none⟩) 8 8) (h22 : A.eval (.tmp 22) = .int .i64 (0 : Nat))
    (hw : W4 w wb U v H blk n wr) (hv : Row8 (w.heap.size + 2) (A.eval (.tmp 15)) x wr)
    (h : ∀ A' wr', Keep p12 A A' → W4 w wb U v (List.zipWith add32 x H) blk n wr' → R A' wr') : c.wp Tryd.prog (only R) A wr := by
  subst hc
  conv => arg 2; whnf
  with_reducible refine o_for 8 (fun k B wx => Keep p12 A B ∧ B.eval (.tmp 22) = .int .i64 (k : Nat) ∧ W4 w wb U v (adds H x k) blk n wx ∧ Row8 (w.heap.size + 2) (A.eval (.tmp 15)) x wx) ⟨Keep.refl _ _, h22, ?_, hv⟩ ?_ ?_
  · rw [adds_zero]; exact hw
  · rintro k B wx hi ⟨hk, b22, hw4, hv⟩
    have hBs := hk.size.trans hAs
    have b4 := (hk.ev 4 rfl).trans h4
    have Hw4 := Lib.hid hw4
    have Hv := Lib.hid hv
    obtain ⟨vb, cv, cs, hvbB, b15, hvb, hx8⟩ := hv
    replace b15 := (hk.ev 15 rfl).trans b15
    have ch : wx.cell? ⟨w.heap.size + 1, k, none⟩ = some (.int .u32 (H.getD k 0 : Nat)) := ((blk_cells hw4.1.h).1 k).trans (by rw [List.getElem?_toArray]; exact adds_at hH hx hi)
    have cfz := (blk_cells hw4.1.h).2.1 k
    have cv1 := ((blk_cells hvb).1 k).trans (hx8 k hi)
    have S1 := add32_int (H.getD k 0) (x.getD k 0)
    have Hfin := Lib.hid (W4.setH hH hx hi (hw4.drewN 1))
    rw [add32_comm] at Hfin
    generalize H.getD k 0 = hk0 at *
    generalize x.getD k 0 = xk0 at *
    have hir : (0 : Int) ≤ k := by omega
    have hil : (k : Int) < 8 := by omega
    have m3 : IntKind.i64.wrap ((k : Int) + 1) = (k : Int) + 1 := by rw [IntKind.wrap_i64]; omega
    clear hvb hx8 hw4
    with_reducible refine o_list fun OPS => ?_
    iterate 2 (with_reducible refine l_val (v := ?_) (w' := ?_) ?_ ?_; rotate_left 2; (simp only [x_move, x_assign, x_load, x_store, x_bin, x_un, x_conv, x_indexAddr, x_index, x_call, ev_if, ev_const, ev_none, sz_put, hBs, b22, Nat.reduceLT, Nat.reduceEqDiff, if_true, if_false]; go_simp; first | done | rfl | (constructor <;> rfl)))
    with_reducible refine o_nil ⟨?_, ?_⟩
    · (simp only [x_move, x_assign, x_load, x_store, x_bin, x_un, x_conv, x_indexAddr, x_index, x_call, ev_if, ev_const, ev_none, sz_put, hBs, b22, Nat.reduceLT, Nat.reduceEqDiff, if_true, if_false]; first | done | rfl)
    with_reducible refine region_still_tail 12 (by kernel_rfl) (by kernel_rfl) ?_
    intro OPS
    simp only [List.take_succ_cons, List.take_zero, List.drop_succ_cons, List.drop_zero]
    iterate 12 (with_reducible refine s_val (v := ?_) ?_ ?_; rotate_left; (simp only [x_move, x_assign, x_load, x_store, x_bin, x_un, x_conv, x_indexAddr, x_index, x_call, ev_if, ev_const, ev_none, sz_put, hBs, b4, b15, b22, Nat.reduceLT, Nat.reduceEqDiff, if_true, if_false]; go_simp; first | done | rfl | (constructor <;> rfl)))
    with_reducible refine wpStill_nil ?_
    with_reducible refine l_skip (w' := ?_) ?_ ?_; rotate_left; (simp only [x_move, x_assign, x_load, x_store, x_bin, x_un, x_conv, x_indexAddr, x_index, x_call, ev_if, ev_const, ev_none, sz_put, hBs, Nat.reduceLT, Nat.reduceEqDiff, if_true, if_false]; go_simp; first | done | rfl | (constructor <;> rfl))
    with_reducible refine o_nil ?_
    with_reducible refine o_list fun OPS => ?_
    iterate 3 (with_reducible refine l_val (v := ?_) (w' := ?_) ?_ ?_; rotate_left 2; (simp only [x_move, x_assign, x_load, x_store, x_bin, x_un, x_conv, x_indexAddr, x_index, x_call, ev_if, ev_const, ev_none, sz_put, hBs, b22, Nat.reduceLT, Nat.reduceEqDiff, if_true, if_false]; go_simp; first | done | rfl | (constructor <;> rfl)))
    with_reducible refine o_nil ⟨?_, ?_, ?_, ?_⟩
    · with_reducible repeat (first | exact hk | refine Keep.put rfl ?_ | refine Keep.putN ?_)
    · (simp only [x_move, x_assign, x_load, x_store, x_bin, x_un, x_conv, x_indexAddr, x_index, x_call, ev_if, ev_const, ev_none, sz_put, hBs, Nat.reduceLT, Nat.reduceEqDiff, if_true, if_false]; first | done | rfl)
    · exact Hfin.out
    · exact (Hv.out.drewN 1).setH (by omega) _ _
  · rintro B wx ⟨hk, b22, hw4, hv⟩
    have hBs := hk.size.trans hAs
    rw [adds_all hH hx] at hw4
    with_reducible refine o_list fun OPS => ?_
    iterate 2 (with_reducible refine l_val (v := ?_) (w' := ?_) ?_ ?_; rotate_left 2; (simp only [x_move, x_assign, x_load, x_store, x_bin, x_un, x_conv, x_indexAddr, x_index, x_call, ev_if, ev_const, ev_none, sz_put, hBs, b22, Nat.reduceLT, Nat.reduceEqDiff, if_true, if_false]; go_simp; first | done | rfl | (constructor <;> rfl)))
    with_reducible refine o_nil ⟨?_, ?_⟩
    · (simp only [x_move, x_assign, x_load, x_store, x_bin, x_un, x_conv, x_indexAddr, x_index, x_call, ev_if, ev_const, ev_none, sz_put, hBs, b22, Nat.reduceLT, Nat.reduceEqDiff, if_true, if_false]; first | done | rfl)
    refine h _ _ ?_ hw4
    with_reducible repeat (first | exact hk | refine Keep.put rfl ?_ | refine Keep.putN ?_)
def O14 (w : World) (H : List Nat) (k : Nat) (v : Value) (wr : World) : Prop :=
  wr.ownsRow w.heap.size 5 1 v ((H.take k).flatMap wordBytes).length (u8s ((H.take k).flatMap wordBytes)) ∧ Below w.heap.size w wr ∧ wr.heap[w.heap.size + 1]? = some (.cells (u32s H).toArray 58 (0, 0))
theorem O14.step {w wr wx : World} {H : List Nat} {k : Nat} {v v' : Value} {O : List UInt8} {o : Obj} (hO : O = (H.take k).flatMap wordBytes) (hk : k < H.length) (h : O14 w H k v wr)
    (hown' : wx.ownsRow w.heap.size 5 1 v' (O.length + 4) (u8s O ++ u8s (wordBytes (H.getD k 0)))) (hg : (wr.alloc o).grownBy wx v.ownBlock) : O14 w H (k + 1) v' wx := by
  obtain ⟨hown, hB, hh⟩ := h
  have hlt := lt_of_heap hh
  refine ⟨?_, ((hB.alloc hB.size o).grown hg (by have := hB.size; simp; omega) (fun k hk => (own_blk hown k hk).1)), ?_⟩
  · have e : (H.take (k + 1)).flatMap wordBytes = O ++ wordBytes (H.getD k 0) := by
      rw [List.take_succ_eq_append_getElem hk, List.flatMap_append, ← hO]
      simp [List.getD_eq_getElem?_getD, hk]
    rw [e, List.length_append]
    have h4 : (wordBytes (H.getD k 0)).length = 4 := rfl
    rw [h4, show u8s (O ++ wordBytes (H.getD k 0)) = u8s O ++ u8s (wordBytes (H.getD k 0)) by simp [u8s]]
    exact hown'
  · refine (hg.block _ (by simp; omega) fun e => ?_).trans ((Below.heap_alloc _ _ _ hlt).trans hh)
    obtain ⟨_, cur, hc⟩ := own_blk hown _ e.symm
    rw [hh] at hc
    simp at hc
theorem build4 : ∀ (w : World) (v0 v1 v2 v3 : Int), (Instr.buildSlice 28 4 #[(0, .int .u8 v0), (1, .int .u8 v1), (2, .int .u8 v2), (3, .int .u8 v3)]).run Tryd.prog w = .ok (.slice (some ⟨w.heap.size, 0, none⟩) 4 4) (w.alloc (.cells #[.int .u8 v0, .int .u8 v1, .int .u8 v2, .int .u8 v3] 5)) := fun _ _ _ _ _ => by kernel_rfl
def p14 : Nat → Bool := span [(23, 24), (299, 328)]
set_option linter.unusedSimpArgs false in
set_option maxHeartbeats 4000000 in
set_option maxRecDepth 100000 in
theorem b14_law {c : Code} (hc : c = shaB 14) (A : Act) (R : Act → World → Prop) (w wr : World) (H : List Nat) (hAs : A.tmps.size = 330) (hH : H.length = 8)
    (h4 : A.eval (.tmp 4) = .slice (some ⟨w.heap.size + 1, 0, none⟩) 8 8) (h24 : A.eval (.tmp 24) = .int .i64 (0 : Nat))
    (hw : O14 w H 0 (A.eval (.tmp 23)) wr)
    (h : ∀ A' wr', Keep p14 A A' → O14 w H 8 (A'.eval (.tmp 23)) wr' → R A' wr') : c.wp Tryd.prog (only R) A wr := by
  obtain ⟨i0, hi0, hz0, hz1, hz2⟩ := info_parts infoU8
  subst hc
  conv => arg 2; whnf
  with_reducible refine o_for 8 (fun k B wx => Keep p14 A B ∧ B.eval (.tmp 24) = .int .i64 (k : Nat) ∧ O14 w H k (B.eval (.tmp 23)) wx) ⟨Keep.refl _ _, h24, hw⟩ ?_ ?_
  · rintro k B wx hi ⟨hk, b24, hw4⟩
    have hBs := hk.size.trans hAs
    have b4 := (hk.ev 4 rfl).trans h4
    have Hw4 := Lib.hid hw4
    obtain ⟨hown, hB, hh⟩ := hw4
    have hsz := hB.size
    obtain ⟨O, hO⟩ : ∃ O, O = (H.take k).flatMap wordBytes := ⟨_, rfl⟩
    rw [← hO] at hown
    have hOl : O.length ≤ 32 := by rw [hO, words_length, List.length_take]; omega
    have HO := Lib.hid hO
    obtain ⟨Av, cv, b23, _, _, _, _⟩ := own_form hown
    have Hal : Hid (∀ o, ((wx.drewN 1).alloc o).ownsRow w.heap.size 5 1 (.slice Av O.length cv) O.length (u8s O)) := Lib.hid fun o => by rw [← b23]; exact World.ownsRow.alloc (w := wx.drewN 1) hown o
    have ch := ((blk_cells hh).1 k).trans (show (u32s H).toArray[k]? = some (.int .u32 (H.getD k 0 : Nat)) by
      rw [List.getElem?_toArray, u32s, List.getElem?_map, List.getD_eq_getElem?_getD, List.getElem?_eq_getElem (by omega)]; rfl)
    have Hgo : Hid (∀ v v' wy o, v = B.eval (.tmp 23) → wy.ownsRow w.heap.size 5 1 v' (O.length + 4) (u8s O ++ u8s (wordBytes (H.getD k 0))) → ((wx.drewN 1).alloc o).grownBy wy v.ownBlock → O14 w H (k + 1) v' wy) :=
      Lib.hid fun v v' wy o hv h1 h2 => O14.step (wr := wx.drewN 1) (v := v) HO.out (by omega) (by rw [hv]; exact ⟨Hw4.out.1, ⟨hB.os, hB.tape, hB.output, hB.size, hB.block⟩, hh⟩) h1 h2
    generalize H.getD k 0 = x at *
    have Hwords := Lib.hid (word_u8s x)
    have hb4 := build4
    have hir : (0 : Int) ≤ k := by omega
    have hil : (k : Int) < 8 := by omega
    have m3 : IntKind.i64.wrap ((k : Int) + 1) = (k : Int) + 1 := by rw [IntKind.wrap_i64]; omega
    have hb23 := Lib.hid b23
    clear hO hown hB hh
    with_reducible refine o_list fun OPS => ?_
    iterate 2 (with_reducible refine l_val (v := ?_) (w' := ?_) ?_ ?_; rotate_left 2; (simp only [x_move, x_assign, x_load, x_store, x_bin, x_un, x_conv, x_indexAddr, x_index, x_call, ev_if, ev_const, ev_none, sz_put, hBs, b24, Nat.reduceLT, Nat.reduceEqDiff, if_true, if_false]; go_simp; first | done | rfl | (constructor <;> rfl)))
    with_reducible refine o_nil ⟨?_, ?_⟩
    · (simp only [x_move, x_assign, x_load, x_store, x_bin, x_un, x_conv, x_indexAddr, x_index, x_call, ev_if, ev_const, ev_none, sz_put, hBs, b24, Nat.reduceLT, Nat.reduceEqDiff, if_true, if_false]; first | done | rfl)
    with_reducible refine o_plan [none, none, none, none, none, none, none, none, none, none, none, none, none, none, none, none, none, none, none, none, none, none, none, none, some false, some true, some true] (fun w' => w'.cell? ⟨w.heap.size + 1, k, none⟩ = some (.int .u32 (x : Nat)) ∧ True) (by kernel_rfl) (by kernel_rfl) ?_ ?_
    · exact ⟨ch, trivial⟩
    intro OPS
    simp only [headsOf, tailsOf]
    iterate 24 (with_reducible refine h_val (v := ?_) ?_ ?_; rotate_left; (rintro _ ⟨hc, _⟩; simp only [x_move, x_assign, x_load, x_store, x_bin, x_un, x_conv, x_indexAddr, x_index, x_call, ev_if, ev_const, ev_none, sz_put, hBs, b4, b23, b24, Nat.reduceLT, Nat.reduceEqDiff, if_true, if_false]; go_simp; first | done | rfl | (constructor <;> rfl)))
    with_reducible refine h_nil ?_
    with_reducible refine t_one ?_
    iterate 1 (with_reducible refine l_val (v := ?_) (w' := ?_) ?_ ?_; rotate_left 2; (simp only [x_move, x_assign, x_load, x_store, x_bin, x_un, x_conv, x_indexAddr, x_index, x_call, ev_if, ev_const, ev_none, sz_put, hBs, x_build, hb4, Nat.reduceLT, Nat.reduceEqDiff, if_true, if_false]; go_simp; first | done | rfl | (constructor <;> rfl)))
    refine t_keep ⟨Cells.alloc _ _ _ _ ch, trivial⟩ ?_
    with_reducible refine t_one ?_
    refine wpList_append_own _ rfl (.tmp 303) (.tmp 327) 28 rfl w.heap.size 5 i0 (.int .u8 0) 1 1 Tryd.underlying28 hi0 hz0 hz1 hz2 rfl (by omega) (.slice Av O.length cv) O.length (u8s O) ?_ (Hal.out _) ⟨wx.heap.size, 0, none⟩ 4 4 [.int .u8 ((x : Int) / 16777216 % 256), .int .u8 ((x : Int) / 65536 % 256), .int .u8 ((x : Int) / 256 % 256), .int .u8 ((x : Int) % 256)] ?_ rfl (fun j v hv => World.news_of_block (w := (wx.drewN 1).alloc _) (heap_alloc_new (wx.drewN 1) _) j v hv) (by rw [← Hwords.out]; exact u8s_one _) (by unfold maxLen; omega) (by omega) (by simp; omega) ?_
    · (simp only [x_move, x_assign, x_load, x_store, x_bin, x_un, x_conv, x_indexAddr, x_index, x_call, ev_if, ev_const, ev_none, sz_put, hBs, b23, Nat.reduceLT, Nat.reduceEqDiff, if_true, if_false]; first | done | rfl)
    · (simp only [x_move, x_assign, x_load, x_store, x_bin, x_un, x_conv, x_indexAddr, x_index, x_call, ev_if, ev_const, ev_none, sz_put, hBs, Nat.reduceLT, Nat.reduceEqDiff, if_true, if_false]; first | done | rfl)
    intro v1 wp hown1 hgrow1 _
    rw [← Hwords.out] at hown1
    have Hfin := Lib.hid (Hgo.out _ _ _ _ hb23.out.symm hown1 hgrow1)
    clear hown1 hgrow1
    refine t_last ?_
    with_reducible refine t_one ?_
    iterate 1 (with_reducible refine l_val (v := ?_) (w' := ?_) ?_ ?_; rotate_left 2; (simp only [x_move, x_assign, x_load, x_store, x_bin, x_un, x_conv, x_indexAddr, x_index, x_call, ev_if, ev_const, ev_none, sz_put, hBs, Nat.reduceLT, Nat.reduceEqDiff, if_true, if_false]; go_simp; first | done | rfl | (constructor <;> rfl)))
    refine t_last ?_
    with_reducible refine t_nil ?_
    with_reducible refine o_nrm ?_
    with_reducible refine o_list fun OPS => ?_
    iterate 3 (with_reducible refine l_val (v := ?_) (w' := ?_) ?_ ?_; rotate_left 2; (simp only [x_move, x_assign, x_load, x_store, x_bin, x_un, x_conv, x_indexAddr, x_index, x_call, ev_if, ev_const, ev_none, sz_put, hBs, b24, Nat.reduceLT, Nat.reduceEqDiff, if_true, if_false]; go_simp; first | done | rfl | (constructor <;> rfl)))
    with_reducible refine o_nil ⟨?_, ?_, ?_⟩
    · with_reducible repeat (first | exact hk | refine Keep.put rfl ?_ | refine Keep.putN ?_)
    · (simp only [x_move, x_assign, x_load, x_store, x_bin, x_un, x_conv, x_indexAddr, x_index, x_call, ev_if, ev_const, ev_none, sz_put, hBs, Nat.reduceLT, Nat.reduceEqDiff, if_true, if_false]; first | done | rfl)
    · simp only [ev_if, sz_put, hBs, Nat.reduceLT, Nat.reduceEqDiff, if_true, if_false]
      exact Hfin.out
  · rintro B wx ⟨hk, b24, hw4⟩
    have hBs := hk.size.trans hAs
    with_reducible refine o_list fun OPS => ?_
    iterate 2 (with_reducible refine l_val (v := ?_) (w' := ?_) ?_ ?_; rotate_left 2; (simp only [x_move, x_assign, x_load, x_store, x_bin, x_un, x_conv, x_indexAddr, x_index, x_call, ev_if, ev_const, ev_none, sz_put, hBs, b24, Nat.reduceLT, Nat.reduceEqDiff, if_true, if_false]; go_simp; first | done | rfl | (constructor <;> rfl)))
    with_reducible refine o_nil ⟨?_, ?_⟩
    · (simp only [x_move, x_assign, x_load, x_store, x_bin, x_un, x_conv, x_indexAddr, x_index, x_call, ev_if, ev_const, ev_none, sz_put, hBs, b24, Nat.reduceLT, Nat.reduceEqDiff, if_true, if_false]; first | done | rfl)
    refine h _ _ ?_ ?_
    · with_reducible repeat (first | exact hk | refine Keep.put rfl ?_ | refine Keep.putN ?_)
    · simp only [ev_if, sz_put, hBs, Nat.reduceLT, Nat.reduceEqDiff, if_true, if_false]
      exact hw4
end Go.Proofs.YtfbdjfljgcfikaaDoor
