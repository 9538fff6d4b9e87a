/-
  Any bytes are read as an archive, or refused, as the reference says: the law ArkUnpacks. (Printed by wip/abexp.py.)
-/
import Derived.Test.YtdmladdpbdcpjaaDoorArkRu6
import Derived.Test.YtdmladdpbdcpjaaDoorArkOv
import Derived.Test.YtdmladdpbdcpjaaDoorArkFirst
import Derived.ArgAppend
namespace Go.Proofs.YtdmladdpbdcpjaaDoor
open Go.RowKit

set_option linter.unusedSimpArgs false

attribute [local go_sem] lt1 lt2 lt3 lt4 lt5 lt6

def UlPost (w : World) (e : Ending) (w' : World) : Prop := e = .returned (.bool true) ∧ Below w.heap.size w w'
def UlRel (w1 : World) (gr n : Nat) (iv : Value) (wr : World) : Prop := ∃ i, i ≤ n ∧ iv = .int .i64 (i : Nat) ∧ Below w1.heap.size w1 wr ∧ (0 < n → ∃ cur, Ovr w1 gr n i cur wr)
def UiRel (w1 : World) (gr n i m : Nat) (cur : Array Value) (kv : Value) (wr : World) : Prop := ∃ k, k ≤ m ∧ kv = .int .i64 (k : Nat) ∧ Ovr w1 gr n i cur wr
set_option maxHeartbeats 8000000 in
set_option maxRecDepth 100000 in
theorem unpacks_any (w : World) (A : Option Addr) (c : Nat) (b : List UInt8) (hm : MaxL w) (hb : Bs w A c b) :
    Calls Tryd.prog 5 #[.slice A b.length c] w (UlPost w) := by
  have Hm := Lib.hid hm
  have HD := Lib.hid hb
  have hdl := hb.len_le
  clear hm hb
  go_enter Tryd.func5, Tryd.ntmps5
  go_wp2_with fail
  refine (first_any w Hm.out).mono ?_
  rintro e w1 ⟨rfl, hb⟩
  have Hb := Lib.hid hb
  clear hb
  by_cases h20 : 20000 < b.length
  · have hJ : (20000 : Int) < b.length := by omega
    go_wp2_with fail
    go_ret
    exact ⟨rfl, Hb.out⟩
  have hJ : ¬ (20000 : Int) < b.length := by omega
  go_wp2_with fail
  refine (lent_any b A c w1 (by omega) (Bs_below HD.out Hb.out)).mono ?_
  rintro e w2 ⟨gm, cm, rfl, hlent, hb⟩
  have HL := Lib.hid hlent
  have Hb2 := Lib.hid (Hb.out.trans (hb.mono Hb.out.size))
  have Hun := Lib.hid (unpack_any w2 b _ cm hlent.bs (by omega) (Hm.out.below Hb2.out))
  clear hlent hb Hb
  go_wp2_with fail
  refine Hun.out.mono ?_
  rintro e w3 ⟨v3, rfl, hfm, hb3⟩
  have Hb3 := Lib.hid hb3
  have HB3 := Lib.hid (Hb2.out.trans (hb3.mono Hb2.out.size))
  obtain ⟨L, hL⟩ : ∃ L, L = unFiles b := ⟨_, rfl⟩
  obtain ⟨n, hn⟩ : ∃ n, n = unErr b := ⟨_, rfl⟩
  have hur := unpack_ref w3 b A c (Bs_below HD.out HB3.out) (by omega)
  unfold UnPostR at hur
  rw [← hL] at hfm
  rw [← hL, ← hn] at hur
  rw [← hn]
  obtain ⟨A3, c3, rfl, hf3⟩ := hfm.own.files
  have Hfm := Lib.hid hfm
  have Hur := Lib.hid hur
  clear hb3 hfm hf3 hur hL hn Hun
  go_wp2_with fail
  refine Hur.out.mono ?_
  rintro e w4 ⟨v4, rfl, hfo, hb4⟩
  obtain ⟨A4, c4, rfl, hf4⟩ := hfo.files
  have Hb4 := Lib.hid (Hb3.out.trans (hb4.mono Hb3.out.size))
  have HB4 := Lib.hid (HB3.out.trans (hb4.mono HB3.out.size))
  have hfm4 : FlM w4 w2.heap.size (.slice A3 L.length c3) L := by
    obtain ⟨cs7, k1, k2⟩ := Hfm.out
    exact ⟨cs7, k1.mono fun _ _ h => h.keep (Bytes8.of_below hb4), own_keep k2 fun k cur h => (hb4.block k (lt_of_heap h)).trans h⟩
  have Hfm4 := Lib.hid hfm4
  obtain ⟨A3', c3', he3, hf3⟩ := hfm4.own.files
  simp only [Value.slice.injEq, true_and] at he3
  obtain ⟨rfl, rfl⟩ := he3
  have hsm := samef_any L L A3 A4 c3 c4 w4 hf3 hf4
  rw [decide_eq_true rfl] at hsm
  have Hsm := Lib.hid hsm
  clear hfo hf4 hb4 hfm4 hf3 hsm Hfm Hur Hb3 HB3
  go_wp2_with fail
  refine Hsm.out.mono ?_
  rintro e w5 ⟨rfl, nd, rfl⟩
  have HB5 : Hid (Below w2.heap.size w2 (w4.drewN nd)) := Lib.hid ⟨Hb4.out.os, Hb4.out.tape, Hb4.out.output, Hb4.out.size, Hb4.out.block⟩
  have HO : Hid (0 < L.length → A3 = some ⟨ovBlk A3, 0, none⟩ ∧ ∃ cur, Ovr w2 (ovBlk A3) L.length 0 cur (w4.drewN nd)) := Lib.hid fun hpos => by
    obtain ⟨cs7, k1, k2⟩ := Hfm4.out
    obtain ⟨g, cap, hv⟩ := own_atv k2 hpos
    simp only [Value.slice.injEq, true_and] at hv
    obtain ⟨rfl, rfl⟩ := hv
    exact ⟨rfl, Ovr.made (w1 := w2) (w := w4.drewN nd) ⟨cs7, k1.mono fun _ _ h => h.keep fun _ _ h => h, own_keep k2 fun _ _ h => h⟩ rfl HB5.out⟩
  have H0 : Hid (UlRel w2 (ovBlk A3) L.length (.int .i64 0) (w4.drewN nd)) := Lib.hid ⟨0, by omega, rfl, HB5.out, fun h => (HO.out h).2⟩
  have HA : Hid (0 < L.length → A3 = some ⟨ovBlk A3, 0, none⟩) := Lib.hid fun h => (HO.out h).1
  have hll : L.length ≤ 9223372036854775807 := by have h3 := (Hfm4.out).own.files; obtain ⟨_, _, _, h4⟩ := h3; have h5 := h4.le; have h6 := h4.big; unfold maxLen at h6; omega
  clear Hsm HO HB5 Hfm4 Hb4 HB4
  obtain ⟨N, hN⟩ : ∃ N, N = L.length := ⟨_, rfl⟩
  rw [← hN] at H0 HA hll ⊢
  clear hN
  obtain ⟨gr, hgr⟩ : ∃ g, g = ovBlk A3 := ⟨_, rfl⟩
  rw [← hgr] at H0 HA
  clear hgr
  go_wp2_with fail
  go_loopw [10, 11] (fun iv _ wr => UlRel w2 gr N iv wr) (fun iv _ _ => N - (intOf iv).toNat)
  case atStart => exact H0.out
  case round =>
    clear H0
    obtain ⟨i, hi, rfl, hB, hov⟩ := hrel
    have hir : (0 : Int) ≤ i := by omega
    by_cases hlt : i < N
    · have hlI : (i : Int) < N := by omega
      obtain rfl := HA.out (by omega)
      obtain ⟨cur, ho⟩ := hov (by omega)
      obtain ⟨g, m, bs, e1, e2, e3, e4, e5⟩ := ho.ent i (Nat.le_refl _) hlt
      have Ho := Lib.hid ho
      have He1 := Lib.hid e1
      have h00 : Hid (UiRel w2 gr N i m cur (.int .i64 0) wr) := Lib.hid ⟨0, by omega, rfl, ho⟩
      clear hB hov ho e1 e2 e4 e5
      go_wp2_with fail
      go_loopw [11] (fun kv wr => UiRel w2 gr N i m cur kv wr) (fun kv _ => m - (intOf kv).toNat)
      case atStart => exact h00.out
      case round =>
        clear h00 Ho
        obtain ⟨k, hk, rfl, ho⟩ := hrel
        obtain ⟨g', m', bs, e1, e2, e3', e4, e5⟩ := ho.ent i (Nat.le_refl _) hlt
        rw [He1.out] at e1
        cases e1
        have hkr : (0 : Int) ≤ k := by omega
        have c1 : wr.cell? ⟨gr, i * 2 + 1, none⟩ = some (.slice (some ⟨g, 0, none⟩) m m) := ((blk_cells ho.row).1 _).trans He1.out
        have Ho := Lib.hid ho
        by_cases hkl : k < m
        · have hkI : (k : Int) < m := by omega
          have c2 : wr.cell? ⟨g, k, none⟩ = bs[k]? := (blk_cells e4).1 k
          rw [Array.getElem?_eq_getElem (by omega)] at c2
          have c3 : wr.frozen? ⟨g, k, none⟩ = false := (blk_cells e4).2.1 k
          have HN : Hid (UiRel w2 gr N i m cur (.int .i64 ((k : Int) + 1)) (wr.setCell ⟨g, k, none⟩ (.int .u8 2))) := Lib.hid ⟨k + 1, by omega, by simp, ho.put e2 e4 k _⟩
          clear ho e4
          go_wp2_with fail
          exact ⟨HN.out, by simp only [intOf]; omega⟩
        · have hkI : ¬ (k : Int) < m := by omega
          obtain ⟨i0, hi0, hz0, hz1, hz2⟩ := info_parts infoU8
          have Hold : Hid (∀ j u, bs.toList[j]? = some u → (wr.alloc (.cells #[.int .u8 3] 5)).cell? ⟨g, j, none⟩ = some u) := Lib.hid fun j u hu => Cells.alloc _ _ _ _ (((blk_cells e4).1 j).trans (by simpa using hu))
          have Hlen : Hid (bs.toList.length = m * 1) := Lib.hid (by simpa using e5)
          clear ho e4 e5
          go_wp2_with (first | (at_builtin; refine wpList_append_grows _ rfl _ _ 28 rfl 5 i0 (.int .u8 0) 1 1 Tryd.underlying28 hi0 hz0 hz1 hz2 rfl (by omega) (some ⟨g, 0, none⟩) m m bs.toList rfl (by simp) Hlen.out (fun b hb j u hu => by cases hb; rw [Addr.add_lit, Nat.zero_add]; exact Hold.out j u hu) ⟨wr.heap.size, 0, none⟩ 1 1 [.int .u8 3] rfl rfl (fun j v hv => World.news_of_block (heap_alloc_new _ _) j v hv) (one_cell _) (by omega) (by unfold maxLen; omega) (by omega) ?_))
          intro v' w' hown hgrow
          have hbw : Below wr.heap.size wr w' := ((Below.refl _ _).alloc (Nat.le_refl _) _).grown hgrow (by simp) (by simp)
          obtain ⟨Av, cv, rfl, _, _, _, _⟩ := own_form hown
          have hr : w'.heap[gr]? = some (.cells cur 46 (0, 0)) := (hbw.block _ (lt_of_heap Ho.out.row)).trans Ho.out.row
          have c1 : w'.cell? ⟨gr, i * 2 + 1, none⟩ = some (.slice (some ⟨g, 0, none⟩) m m) := ((blk_cells hr).1 _).trans He1.out
          have c3 : w'.frozen? ⟨gr, i * 2 + 1, none⟩ = false := (blk_cells hr).2.1 _
          have HN : Hid (UlRel w2 gr N (.int .i64 ((i : Int) + 1)) (w'.setCell ⟨gr, i * 2 + 1, none⟩ (.slice Av (m + 1) cv))) := Lib.hid ⟨i + 1, by omega, by simp, (Ho.out.next hbw _).below, fun _ => ⟨_, Ho.out.next hbw _⟩⟩
          clear hown hgrow hbw hr Hold Hlen Ho
          go_wp2_with fail
          exact ⟨HN.out, by simp only [intOf]; omega⟩
    · have hlI : ¬ (i : Int) < N := by omega
      have HB := Lib.hid hB
      have HLw : Hid (LentAt wr w1.heap.size gm cm b) := Lib.hid (own_keep HL.out fun g _ hg => (hB.block g (lt_of_heap hg)).trans hg)
      have HBw := Lib.hid (Hb2.out.trans (hB.mono Hb2.out.size))
      clear hB hov
      go_wp2_with fail
      refine (num_any _ _).mono ?_
      rintro e w6 ⟨rfl, rfl⟩
      go_wp2_with fail
      refine (kept_any b _ gm cm A c wr (by omega) HLw.out (Bs_below HD.out HBw.out)).mono ?_
      rintro e w7 ⟨rfl, nd2, rfl⟩
      have Hfin : Hid (Below w.heap.size w (wr.drewN nd2)) := Lib.hid ⟨HBw.out.os, HBw.out.tape, HBw.out.output, HBw.out.size, HBw.out.block⟩
      go_wp2_with fail
      go_ret
      exact ⟨rfl, Hfin.out⟩
end Go.Proofs.YtdmladdpbdcpjaaDoor
