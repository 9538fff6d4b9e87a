/-
  SHA-256 of the reference.
-/
import Derived.Test.YtfbdjfljgcfikaaDoorArkShR5
import Derived.Test.YtfbdjfljgcfikaaDoorAbH
import Derived.Outline
import Derived.Deep.CutBlock
namespace Go.Proofs.YtfbdjfljgcfikaaDoor
open Go.RowKit

set_option linter.unusedSimpArgs false

attribute [local go_sem] lt1 lt2 lt3 lt4 lt5 lt6

set_option maxHeartbeats 8000000 in
set_option maxRecDepth 1000000 in
theorem sha_ref (w : World) (b : List UInt8) (A : Option Addr) (c : Nat) (hb : Bs w A c b) (hl : b.length ≤ 1048000) :
    Calls Tryd.prog 33 #[.slice A b.length c] w (BytesPost (sha b) w) := by
  have Hb := Lib.hid hb
  clear hb
  obtain ⟨i0, hi0, hz0, hz1, hz2⟩ := info_parts infoU8
  obtain ⟨KA, hKA⟩ : ∃ x, x = (u32s shaK).toArray := ⟨_, rfl⟩
  have hcon := constants_ref
  rw [← hKA] at hcon
  have HKA := Lib.hid hKA
  clear hKA
  go_enter Tryd.func33, Tryd.ntmps33
  go_wp2_with fail
  refine (hcon _).mono ?_
  rintro e w1 ⟨rfl, hw1⟩
  obtain rfl := hw1.symm
  have Hb0 : Hid (Bs ((w.alloc (.cells KA 58)).alloc (.cells #[.int .u32 1779033703, .int .u32 3144134277, .int .u32 1013904242, .int .u32 2773480762, .int .u32 1359893119, .int .u32 2600822924, .int .u32 528734635, .int .u32 1541459225] 58)) A c b) := Lib.hid (Hb.out.keep ((Cells.alloc _ _).trans (Cells.alloc _ _)))
  go_wp2_with fail
  refine (bytes_any b A c _ (by omega) Hb0.out).mono ?_
  rintro e w2 ⟨v, rfl, hown, hB⟩
  have h0 : w2.heap[w.heap.size]? = some (.cells (u32s shaK).toArray 58 (0, 0)) := by
    rw [hB.block w.heap.size (by simp; omega), Below.heap_alloc _ _ _ (by simp), heap_alloc_new, HKA.out]
  have h1 : w2.heap[w.heap.size + 1]? = some (.cells (u32s shaH).toArray 58 (0, 0)) := by
    rw [hB.block (w.heap.size + 1) (by simp), heap_alloc2, shaH8]
  have hR : ShR w shaH b v w2 := ⟨(((Below.refl _ _).alloc (Nat.le_refl _) _).alloc (by simp) _).trans (hB.mono (by simp; omega)), h0, h1, by simpa using hown⟩
  obtain ⟨Av, cv, rfl, _, _, _, _⟩ := own_form hown
  have HR := Lib.hid hR
  have hs2 := hR.size
  clear hown hB h0 h1 hR
  go_wp2_with (first | (at_builtin; refine wpList_append_own _ rfl _ _ 28 rfl (w.heap.size + 2) 5 i0 (.int .u8 0) 1 1 Tryd.underlying28 hi0 hz0 hz1 hz2 rfl (by omega) (.slice Av b.length cv) b.length (u8s b) rfl (HR.out.m.alloc _) ⟨w2.heap.size, 0, none⟩ 1 1 [.int .u8 128] rfl rfl (cell_one_new _ _ _) (one_cell _) (by unfold maxLen; omega) (by omega) (by simp; omega) ?_))
  intro v1 wp hown1 hgrow1 _
  have Hp1 := Lib.hid (HR.out.push 128 (by decide) hown1 hgrow1)
  obtain ⟨Av1, cv1, rfl, _, _, _, _⟩ := own_form hown1
  clear hown1 hgrow1
  go_wp2_with fail
  go_loopw [5] (fun v wr => ShPad w b v wr) (fun v _ => b.length + 200 - lenOf v)
  case atStart => exact ⟨0, by omega, by simpa using Hp1.out⟩
  case round =>
    obtain ⟨k, hk, hp⟩ := hrel
    obtain ⟨T, hT⟩ : ∃ T, T = b ++ [128] ++ List.replicate k 0 := ⟨_, rfl⟩
    rw [← hT] at hp
    have hlen : T.length = b.length + 1 + k := by rw [hT]; simp; omega
    have hz : zerosFor b.length = (55 + 64 - b.length % 64) % 64 := rfl
    have htm : (T.length : Int).tmod 64 = (T.length : Int) % 64 := Int.tmod_eq_emod_of_nonneg (by omega)
    have Hp := Lib.hid hp
    have HT := Lib.hid hT
    obtain ⟨Av, cv, rfl, _, _, _, _⟩ := own_form hp.m
    have hwr := hp.size
    have h200 : T.length < b.length + 200 := by omega
    clear hp hT
    by_cases hlt : k < zerosFor b.length
    · have hne : ((T.length : Int) % 64 != 56) = true := by rw [bne_iff_ne]; omega
      clear hlen hz htm
      go_wp2_with (first | (at_builtin; refine wpList_append_own _ rfl _ _ 28 rfl (w.heap.size + 2) 5 i0 (.int .u8 0) 1 1 Tryd.underlying28 hi0 hz0 hz1 hz2 rfl (by omega) (.slice Av T.length cv) T.length (u8s T) rfl (Hp.out.m.alloc _) ⟨wr.heap.size, 0, none⟩ 1 1 [.int .u8 0] rfl rfl (cell_one_new _ _ _) (one_cell _) (by unfold maxLen; omega) (by omega) (by simp; omega) ?_))
      intro v1 wp hown1 hgrow1 _
      have Hp1 := Lib.hid (Hp.out.push 0 (by decide) hown1 hgrow1)
      obtain ⟨Av1, cv1, rfl, _, _, _, _⟩ := own_form hown1
      clear hown1 hgrow1
      have Hfin : Hid (ShPad w b (.slice Av1 (T.length + 1) cv1) wp) := Lib.hid ⟨k + 1, by omega, by
        have := Hp1.out
        rw [HT.out, List.append_assoc, ← List.replicate_succ', ← HT.out] at this
        exact this⟩
      go_wp2_with fail
      go_roundw
      case rel => exact Hfin.out
      case measure => simp [lenOf]; omega
    · have hkz : k = zerosFor b.length := by omega
      have heq : ((T.length : Int) % 64 != 56) = false := by rw [bne_eq_false_iff_eq]; omega
      rw [hkz] at HT
      clear hz htm hkz
      have Hl := Lib.hid hlen
      clear hlen
      have Hp' : Hid (ShTail w T b.length (.int .i64 7) (.slice Av T.length cv) wr) := Lib.hid ⟨0, by omega, rfl, by simpa [be64] using Hp.out⟩
      clear Hp
      go_wp2_with fail
      go_loopw [7, 5] (fun iv v wr => ShTail w T b.length iv v wr) (fun iv _ _ => (intOf iv + 1).toNat)
      case atStart => exact Hp'.out
      case round =>
        obtain ⟨k, hk, rfl, hp⟩ := hrel
        obtain ⟨U, hU⟩ : ∃ U, U = T ++ (be64 (8 * b.length)).take k := ⟨_, rfl⟩
        rw [← hU] at hp
        have hUl : U.length = T.length + k := by rw [hU, List.length_append, List.length_take, be64_length]; omega
        have Hp := Lib.hid hp
        have HU := Lib.hid hU
        obtain ⟨Av2, cv2, rfl, _, _, _, _⟩ := own_form hp.m
        have hwr := hp.size
        have h300 : U.length < b.length + 300 := by omega
        clear hp hU hUl
        by_cases hlt : k < 8
        · have hk1 : (0 : Int) ≤ 7 - (k : Int) := by omega
          have hk2 : (0 : Int) ≤ 8 * (7 - (k : Int)) := by omega
          have hk4 : 8 * (7 - (k : Int)) ≤ 56 := by omega
          have hk3 : (8 * (7 - (k : Int))).toNat = 56 - 8 * k := by omega
          go_wp2_with (first | (at_builtin; refine wpList_append_own _ rfl _ _ 28 rfl (w.heap.size + 2) 5 i0 (.int .u8 0) 1 1 Tryd.underlying28 hi0 hz0 hz1 hz2 rfl (by omega) (.slice Av2 U.length cv2) U.length (u8s U) rfl (Hp.out.m.alloc _) ⟨wr.heap.size, 0, none⟩ 1 1 [.int .u8 ((b.length : Int) * 8 / 2 ^ (56 - 8 * k) % 256)] rfl rfl (cell_one_new _ _ _) (one_cell _) (by unfold maxLen; omega) (by omega) (by simp; omega) ?_))
          intro v1 wp hown1 hgrow1 _
          have Hfin := Lib.hid (tail_step HU.out hlt Hp.out hown1 hgrow1)
          obtain ⟨Av3, cv3, rfl, _, _, _, _⟩ := own_form hown1
          clear hown1 hgrow1
          go_wp2_with fail
          exact ⟨Hfin.out, by simp [intOf]; omega⟩
        · obtain rfl : k = 8 := by omega
          rw [List.take_of_length_le (by rw [be64_length]; exact Nat.le_refl _)] at HU
          have hPU : U = padded b := by rw [HU.out, HT.out]; simp [padded]
          have hmod := padded_length b
          rw [← hPU] at hmod
          obtain ⟨m, hm⟩ : ∃ m, U.length = 64 * m := ⟨U.length / 64, by omega⟩
          have Hm := Lib.hid hm
          have HP := Lib.hid hPU
          have hmk := make64
          obtain ⟨Z, hZ⟩ : ∃ Z, Z = zero64 := ⟨_, rfl⟩
          have hzs := zero64_size
          rw [← hZ] at hmk hzs
          have Hzs := Lib.hid hzs
          have Hul : Hid (U.length ≤ 1048576) := Lib.hid (by omega)
          have Hst : Hid (W4 w wr.heap.size U (.slice Av2 U.length cv2) shaH [] 0 (wr.alloc (.cells Z 58))) := Lib.hid ⟨⟨Hp.out.below.alloc Hp.out.below.size _, (Below.heap_alloc _ _ _ (by omega)).trans Hp.out.k, (Below.heap_alloc _ _ _ (by omega)).trans Hp.out.h, Hp.out.m.alloc _⟩, hwr, Z, heap_alloc_new _ _, hzs, fun j hj => by omega⟩
          clear hPU hmod hm hZ hzs HU HT Hl Hp' Hp1
          have hneg : ¬ (0 : Int) ≤ 7 - ((8 : Nat) : Int) := by omega
          go_upto_block 4 with fail
          refine o_link (R := fun A' wx => Keep pB _ A' ∧ W4 w wr.heap.size U (.slice Av2 U.length cv2) (blocks shaH U m) [] 0 wx) (b4_law (by kernel_rfl) _ _ w _ _ m cv2 Av2 U rfl Hm.out Hul.out rfl rfl rfl rfl rfl Hst.out fun A' wx h1 h2 => ⟨h1, h2⟩) ?_
          rename_i hK
          rintro B4 w4 ⟨hk4, hw4⟩
          have hs4 : B4.tmps.size = 330 := hk4.size
          have f4 : B4.eval (.tmp 4) = .slice (some ⟨w.heap.size + 1, 0, none⟩) 8 8 := hk4.ev 4 rfl
          have hdf : B4.defers = [] := hk4.defers
          have hpl : padded b = U := HP.out.symm
          have hsha : sha b = (blocks shaH U m).flatMap wordBytes := by unfold sha; rw [hpl, Hm.out, Nat.mul_div_cancel_left _ (by decide)]
          have h8l : (blocks shaH U m).length = 8 := blocks_length _ _ rfl _
          obtain ⟨hR4, _⟩ := hw4
          clear hk4
          refine hK B4 w4 ?_
          clear hK
          refine wp_seq ?_
          with_reducible refine g_list fun OPS => ?_
          iterate 1 (with_reducible refine l_val (v := ?_) (w' := ?_) ?_ ?_; rotate_left 2; (simp only [x_move, x_assign, x_load, x_store, x_bin, x_un, x_conv, x_indexAddr, x_index, x_call, ev_if, ev_const, ev_none, sz_put, hs4, Nat.reduceLT, Nat.reduceEqDiff, if_true, if_false]; go_simp; first | done | rfl | (constructor <;> rfl)))
          with_reducible refine g_nil ?_
          refine wp_seq (wp_seq ?_)
          with_reducible refine g_list fun OPS => ?_
          iterate 1 (with_reducible refine l_val (v := ?_) (w' := ?_) ?_ ?_; rotate_left 2; (simp only [x_move, x_assign, x_load, x_store, x_bin, x_un, x_conv, x_indexAddr, x_index, x_call, ev_if, ev_const, ev_none, sz_put, hs4, Nat.reduceLT, Nat.reduceEqDiff, if_true, if_false]; go_simp; first | done | rfl | (constructor <;> rfl)))
          with_reducible refine g_nil ?_
          refine o_link (R := fun A' wx => Keep p14 _ A' ∧ O14 w (blocks shaH U m) 8 (A'.eval (.tmp 23)) wx) (b14_law (by kernel_rfl) _ _ w w4 (blocks shaH U m) ?_ h8l ?_ ?_ ?_ fun A' wx h1 h2 => ⟨h1, h2⟩) ?_
          · (simp only [x_move, x_assign, x_load, x_store, x_bin, x_un, x_conv, x_indexAddr, x_index, x_call, ev_if, ev_const, ev_none, sz_put, hs4, Nat.reduceLT, Nat.reduceEqDiff, if_true, if_false]; first | done | rfl)
          · (simp only [x_move, x_assign, x_load, x_store, x_bin, x_un, x_conv, x_indexAddr, x_index, x_call, ev_if, ev_const, ev_none, sz_put, hs4, f4, Nat.reduceLT, Nat.reduceEqDiff, if_true, if_false]; first | done | rfl)
          · (simp only [x_move, x_assign, x_load, x_store, x_bin, x_un, x_conv, x_indexAddr, x_index, x_call, ev_if, ev_const, ev_none, sz_put, hs4, Nat.reduceLT, Nat.reduceEqDiff, if_true, if_false]; first | done | rfl)
          · refine ⟨?_, hR4.below, hR4.h⟩
            have e : Act.eval _ (.tmp 23) = .slice none 0 0 := show (((B4.put (some 23) (.slice none 0 0)).put (some 24) (.int .i64 0)).eval (.tmp 23)) = .slice none 0 0 by (simp only [x_move, x_assign, x_load, x_store, x_bin, x_un, x_conv, x_indexAddr, x_index, x_call, ev_if, ev_const, ev_none, sz_put, hs4, Nat.reduceLT, Nat.reduceEqDiff, if_true, if_false]; first | done | rfl)
            rw [e]
            exact World.ownsRow_nil _ _ _ _
          rintro B5 w5 ⟨hk5, hown5, hbel5, _⟩
          have hs5 := hk5.size.trans (show _ = 330 by (simp only [x_move, x_assign, x_load, x_store, x_bin, x_un, x_conv, x_indexAddr, x_index, x_call, ev_if, ev_const, ev_none, sz_put, hs4, Nat.reduceLT, Nat.reduceEqDiff, if_true, if_false]; first | done | rfl))
          have hd5 : B5.defers = [] := hk5.defers.trans hdf
          obtain ⟨v23, h23⟩ : ∃ v, B5.eval (.tmp 23) = v := ⟨_, rfl⟩
          rw [h23] at hown5
          have Hown5 := Lib.hid hown5
          clear hown5 hk5
          refine g_then ?_
          refine wp_seq ?_
          with_reducible refine g_list fun OPS => ?_
          iterate 2 (with_reducible refine l_val (v := ?_) (w' := ?_) ?_ ?_; rotate_left 2; (simp only [x_move, x_assign, x_load, x_store, x_bin, x_un, x_conv, x_indexAddr, x_index, x_call, ev_if, ev_const, ev_none, sz_put, hs5, h23, Nat.reduceLT, Nat.reduceEqDiff, if_true, if_false]; go_simp; first | done | rfl | (constructor <;> rfl)))
          with_reducible refine g_nil ?_
          refine wp_ret ?_
          refine bodyPost_ret (results_tmp rfl _ _ _) hd5 ?_
          have e2 : Act.eval ((B5.put (some 329) v23).put (some 2) v23) (.tmp 2) = v23 := by (simp only [x_move, x_assign, x_load, x_store, x_bin, x_un, x_conv, x_indexAddr, x_index, x_call, ev_if, ev_const, ev_none, sz_put, hs5, Nat.reduceLT, Nat.reduceEqDiff, if_true, if_false]; first | done | rfl)
          refine ⟨v23, congrArg Ending.returned e2, ?_, hbel5⟩
          rw [hsha]
          have := Hown5.out
          rw [List.take_of_length_le (by omega)] at this
          exact this
end Go.Proofs.YtfbdjfljgcfikaaDoor
