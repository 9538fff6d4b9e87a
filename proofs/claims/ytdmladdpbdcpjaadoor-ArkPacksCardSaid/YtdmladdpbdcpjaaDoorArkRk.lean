/-
  The reference's Pack. (Printed by wip/abexp.py.)
-/
import Derived.Test.YtdmladdpbdcpjaaDoorArkRu5
import Derived.Test.YtdmladdpbdcpjaaDoorArkByName
namespace Go.Proofs.YtdmladdpbdcpjaaDoor
open Go.RowKit

set_option linter.unusedSimpArgs false

attribute [local go_sem] lt1 lt2 lt3 lt4 lt5 lt6

def szOf (l : List Fl) : Nat := (l.map fun p => 76 + 2 * p.1.size + p.2.length).sum
theorem szOf_take {l : List Fl} {i : Nat} (h : i < l.length) : szOf (l.take (i + 1)) = szOf (l.take i) + (76 + 2 * (l.getD i noFl).1.size + (l.getD i noFl).2.length) := by
  unfold szOf
  rw [List.take_succ_eq_append_getElem h, List.map_append, List.sum_append]
  simp [List.getD_eq_getElem?_getD, h]
theorem szOf_len (l : List Fl) : ∀ i, i ≤ l.length → (locsB (l.take i)).length + (censB l i).length = szOf (l.take i)
  | 0, _ => by simp [locsB, censB, szOf]
  | i + 1, h => by
    have ih := szOf_len l i (by omega)
    rw [locsB_take (by omega), censB_succ, szOf_take (by omega), List.length_append, List.length_append, locB_len, cenB_len]
    omega
theorem packB_sz (l : List Fl) : (packB l).length = 22 + szOf l := by
  have h := szOf_len l l.length (Nat.le_refl _)
  rw [List.take_length] at h
  have he : (endB l.length (censB l l.length).length (locsB l).length).length = 22 := by simp [endB, lesB_length]
  rw [packB, List.length_append, List.length_append, he]
  omega
theorem szOf_mem {l : List Fl} {i : Nat} (h : i < l.length) : szOf (l.take i) + (76 + 2 * (l.getD i noFl).1.size + (l.getD i noFl).2.length) ≤ szOf l := by
  rw [← szOf_take h]
  have : szOf l = szOf (l.take (i + 1)) + szOf (l.drop (i + 1)) := by unfold szOf; rw [← List.sum_append, ← List.map_append, List.take_append_drop]
  omega
theorem sumD_perm {a b : List Fl} (h : a.Perm b) : sumD a = sumD b := by
  unfold sumD
  induction h with
  | nil => rfl
  | cons x _ ih => simp only [List.map_cons, List.sum_cons, ih]
  | swap x y l => simp only [List.map_cons, List.sum_cons]; omega
  | trans _ _ i1 i2 => exact i1.trans i2
theorem sumD_sz : ∀ l : List Fl, sumD l ≤ szOf l
  | [] => by simp [sumD, szOf]
  | p :: l => by
    have := sumD_sz l
    unfold sumD szOf at *
    simp only [List.map_cons, List.sum_cons]
    omega
theorem pack_big {l : List Fl} (h1 : ¬ 100 < l.length) (h2 : namesErr [] (namesOf l) = 0) (h : 1048576 < (packB (byName l)).length) : packErr l (byName l) = 13 := by
  unfold packErr
  rw [if_neg h1, if_neg (by rw [h2]; simp)]
  split <;> rfl
theorem pack_fits {l : List Fl} (h1 : ¬ 100 < l.length) (h2 : namesErr [] (namesOf l) = 0) (h : ¬ 1048576 < (packB (byName l)).length) : packErr l (byName l) = 0 := by
  unfold packErr
  have hp := sumD_perm (byName_perm l)
  have hs := sumD_sz (byName l)
  have hq := packB_sz (byName l)
  rw [if_neg h1, if_neg (by rw [h2]; simp), if_neg (by omega), if_neg h]
def RkRel (W : World) (L : List Fl) (zv iv : Value) (wr : World) : Prop := ∃ i, i ≤ L.length ∧ iv = .int .i64 (i : Nat) ∧ zv = .int .i64 (22 + szOf (L.take i) : Nat) ∧ (∀ p ∈ L.take i, p.2.length ≤ 1048576) ∧ Below W.heap.size W wr
set_option maxHeartbeats 4000000 in
set_option maxRecDepth 100000 in
theorem pack_ref (w : World) (A : Option Addr) (c : Nat) (l : List Fl) (hf : FlAt w A c l) (hbig : l.length ≤ 1048576) (hs : ∀ p ∈ l, p.1.size ≤ 1048576) (hd : ∀ p ∈ l, p.2.length ≤ 4294967296) :
    Calls Tryd.prog 14 #[.slice A l.length c] w (PackPost w l (byName l)) := by
  have hn := names_ref w A c l hf hbig hs
  unfold NmPost at hn
  have Hf := Lib.hid hf
  have Hs := Lib.hid hs
  have Hd := Lib.hid hd
  clear hf hs hd
  obtain ⟨k, hk⟩ : ∃ k, k = namesErr [] (namesOf l) := ⟨_, rfl⟩
  rw [← hk] at hn
  have Hk := Lib.hid hk
  have Hn := Lib.hid hn
  clear hn hk
  by_cases h100 : 100 < l.length
  · have hI : (100 : Int) < l.length := by omega
    have Hfin := Lib.hid (pack_fails (w := w) (w' := w) (l := l) (L := byName l) (n := 14) (by unfold packErr; rw [if_pos h100]) (by decide) (Below.refl _ _))
    clear Hn
    go_enter Tryd.func14, Tryd.ntmps14
    go_wp2_with fail
    go_ret2
    exact Hfin.out
  have hI : ¬ (100 : Int) < l.length := by omega
  go_enter Tryd.func14, Tryd.ntmps14
  go_wp2_with fail
  refine Hn.out.mono ?_
  rintro e w1 ⟨rfl, hb⟩
  have Hb := Lib.hid hb
  clear hb Hn
  by_cases hz : k = 0
  · subst hz
    have Hby := Lib.hid (byname_ref w1 A c l (Hf.out.below Hb.out) hbig)
    go_wp2_with fail
    refine Hby.out.mono ?_
    rintro e W ⟨v, rfl, hown, hbW⟩
    obtain ⟨L, hL⟩ : ∃ L, L = byName l := ⟨_, rfl⟩
    rw [← hL] at hown
    have HLl : Hid (L.length = l.length) := Lib.hid (by rw [hL, byName_length])
    obtain ⟨Az, cz, rfl, hfl⟩ := hown.files
    have HbW := Lib.hid (Hb.out.trans (hbW.mono Hb.out.size))
    have HLm : Hid (∀ p, p ∈ L → p ∈ l) := Lib.hid fun p hp => by rw [hL] at hp; exact (byName_perm l).mem_iff.1 hp
    have Hfl := Lib.hid hfl
    have HL := Lib.hid hL
    have hi100 : L.length ≤ 100 := by have := HLl.out; omega
    clear hown hbW hfl hL Hby
    go_wp2_with fail
    go_loopw [6, 7] (fun zv iv wr => RkRel W L zv iv wr) (fun _ iv _ => L.length - (intOf iv).toNat)
    case atStart => exact ⟨0, by omega, rfl, rfl, by simp, Below.refl _ _⟩
    case round =>
      obtain ⟨i, hi, rfl, rfl, hsm, hB⟩ := hrel
      have HB := Lib.hid hB
      have Hsm := Lib.hid hsm
      clear hB hsm
      have hir : (0 : Int) ≤ i := by omega
      by_cases hlt : i < L.length
      · have hlI : (i : Int) < L.length := by omega
        obtain ⟨bb, oo, Ai, ci, rfl, f1, f2, hbs⟩ := (Hfl.out.below HB.out).at_ hlt
        have hmem := List.mem_of_getElem? (getD_some hlt)
        have hps := Hs.out _ (HLm.out _ hmem)
        have hpd := Hd.out _ (HLm.out _ hmem)
        have Hst := Lib.hid (szOf_take hlt)
        have Hm := Lib.hid (szOf_mem hlt)
        have Htk := Lib.hid (take_getD hlt)
        have hsb : szOf (L.take i) ≤ i * 8388608 := by
          have key : ∀ j, j ≤ i → szOf (L.take j) ≤ j * 8388608 := by
            intro j
            induction j with
            | zero => intro _; simp [szOf]
            | succ j ih =>
              intro hj
              have h1 := ih (by omega)
              rw [szOf_take (by omega)]
              have h2 := HLm.out _ (List.mem_of_getElem? (getD_some (show j < L.length by omega)))
              have h3 := Hs.out _ h2
              have h4 : (L.getD j noFl).2.length ≤ 1048576 := by
                refine Hsm.out _ ?_
                rw [List.mem_take_iff_getElem]
                exact ⟨j, by omega, by simp [List.getD_eq_getElem?_getD, show j < L.length by omega]⟩
              omega
          exact key i (Nat.le_refl _)
        have hsb2 : szOf (L.take i) ≤ 100 * 8388608 := Nat.le_trans hsb (Nat.mul_le_mul_right _ (by omega))
        clear hbs hsb hmem
        generalize L.getD i noFl = p at *
        obtain ⟨z, hz⟩ : ∃ z, z = 22 + szOf (L.take i) := ⟨_, rfl⟩
        rw [← hz]
        have Hz := Lib.hid hz
        have hzb : z ≤ 838860900 := by omega
        clear hz hsb2
        by_cases hpl : 1048576 < p.2.length
        · have hplI : (1048576 : Int) < p.2.length := by omega
          have Hfin := Lib.hid (pack_fails (w := w) (w' := wr) (l := l) (L := byName l) (n := 13) (pack_big h100 Hk.out.symm (by rw [packB_sz, ← HL.out]; have := Hm.out; omega)) (by decide) (HbW.out.trans (HB.out.mono HbW.out.size)))
          go_wp2_with fail
          go_ret2
          exact Hfin.out
        · have hplI : ¬ (1048576 : Int) < p.2.length := by omega
          have Hfin : Hid (RkRel W L (.int .i64 ((z : Int) + 76 + 2 * (p.1.size : Nat) + (p.2.length : Nat))) (.int .i64 ((i : Int) + 1)) wr.drew) := Lib.hid ⟨i + 1, by omega, by simp, by rw [Hst.out]; congr 1; have := Hz.out; omega, by
            rw [Htk.out]
            intro q hq
            rcases List.mem_append.1 hq with h | h
            · exact Hsm.out q h
            · rw [List.mem_singleton.1 h]; omega, ⟨HB.out.os, HB.out.tape, HB.out.output, HB.out.size, HB.out.block⟩⟩
          have k1 : IntKind.i64.wrap ((z : Int) + 76) = (z : Int) + 76 := by rw [IntKind.wrap_i64]; omega
          have k2 : IntKind.i64.wrap (2 * (p.1.size : Int)) = 2 * (p.1.size : Int) := by rw [IntKind.wrap_i64]; omega
          have k3 : IntKind.i64.wrap ((z : Int) + 76 + 2 * (p.1.size : Int)) = (z : Int) + 76 + 2 * (p.1.size : Int) := by rw [IntKind.wrap_i64]; omega
          have k4 : IntKind.i64.wrap ((z : Int) + 76 + 2 * (p.1.size : Int) + (p.2.length : Int)) = (z : Int) + 76 + 2 * (p.1.size : Int) + (p.2.length : Int) := by rw [IntKind.wrap_i64]; omega
          go_wp2_with fail
          with_reducible refine g_mix [(0, none), (1, none), (2, none), (3, none), (4, none), (5, none), (6, none), (7, none), (8, none), (9, none), (10, none), (11, none), (12, none), (13, none), (14, none), (15, none), (16, none), (17, none)] (fun w' => w'.cell? ⟨bb, oo + i * 2, none⟩ = some (.string p.1) ∧ w'.cell? ⟨bb, oo + i * 2 + 1, none⟩ = some (.slice Ai p.2.length ci)) (by kernel_rfl) (by kernel_rfl) ?_
          intro OPS
          simp only [mixOf, nthO, consO]
          iterate 18 ((with_reducible refine m_val (v := ?_) ?_ ?_ ?_); rotate_left; (rintro _ ⟨h1, h2⟩; (try simp only [k1, k2, k3, k4]); go_simp; first | done | rfl | (constructor <;> rfl)); exact ⟨f1, f2⟩)
          with_reducible refine m_end ?_
          simp only [Act.put, List.setIfInBounds_toArray, List.set_cons_zero, List.set_cons_succ]
          clear k1 k2 k3 k4
          go_wp2_with fail
          go_roundw
          case rel => exact Hfin.out
          case measure => simp [intOf]; omega
      · have hlI : ¬ (i : Int) < L.length := by omega
        obtain rfl : i = L.length := by omega
        have hLl := HLl.out
        have hsb2 : szOf L ≤ 100 * 8388608 := by
          have key : ∀ j, j ≤ L.length → szOf (L.take j) ≤ j * 8388608 := by
            intro j
            induction j with
            | zero => intro _; simp [szOf]
            | succ j ih =>
              intro hj
              have h1 := ih (by omega)
              rw [szOf_take (by omega)]
              have h2 := HLm.out _ (List.mem_of_getElem? (getD_some (show j < L.length by omega)))
              have h3 := Hs.out _ h2
              have h4 : (L.getD j noFl).2.length ≤ 1048576 := by
                refine Hsm.out _ ?_
                rw [List.take_length]
                exact List.mem_of_getElem? (getD_some (show j < L.length by omega))
              omega
          have h1 := key L.length (Nat.le_refl _)
          rw [List.take_length] at h1
          exact Nat.le_trans h1 (Nat.mul_le_mul_right _ (by omega))
        rw [List.take_length]
        have hpk : (packB L).length = 22 + szOf L := packB_sz L
        obtain ⟨z, hz⟩ : ∃ z, z = 22 + szOf L := ⟨_, rfl⟩
        rw [← hz] at hpk ⊢
        have hzb : z ≤ 838860900 := by omega
        have hlen : L.length ≤ 100 := by omega
        have Hpk := Lib.hid hpk
        clear hz hsb2 hpk hLl
        by_cases hzz : 1048576 < z
        · have hzI : (1048576 : Int) < z := by omega
          have Hfin := Lib.hid (pack_fails (w := w) (w' := wr) (l := l) (L := byName l) (n := 13) (pack_big h100 Hk.out.symm (by rw [← HL.out, Hpk.out]; exact hzz)) (by decide) (HbW.out.trans (HB.out.mono HbW.out.size)))
          go_wp2_with fail
          go_ret2
          exact Hfin.out
        · have hzI : ¬ (1048576 : Int) < z := by omega
          have hloc : (locsB L).length ≤ 1048576 := by
            have h1 := Hpk.out
            rw [packB, List.length_append, List.length_append] at h1
            omega
          have Har := Lib.hid (archive_ref wr Az cz L (Hfl.out.below HB.out) (by omega) hloc)
          have hpe : packErr l (byName l) = 0 := pack_fits h100 Hk.out.symm (by rw [← HL.out, Hpk.out]; exact hzz)
          have Hpe := Lib.hid hpe
          clear hloc hpe
          go_wp2_with fail
          refine Har.out.mono ?_
          rintro e w3 ⟨v, rfl, hown, hb⟩
          have Hfin : Hid (PackPost w l (byName l) (.returned (.tuple #[v, .int .i64 0])) w3) := Lib.hid ⟨_, by rw [Hpe.out]; rfl, by
            unfold packed
            rw [if_pos Hpe.out, ← HL.out]
            exact own_base hown (Nat.le_trans HbW.out.size HB.out.size), (HbW.out.trans (HB.out.mono HbW.out.size)).trans (hb.mono (Nat.le_trans HbW.out.size HB.out.size))⟩
          clear hown hb
          go_wp2_with fail
          go_ret2
          exact Hfin.out
  · have hnb : ((k : Int) != 0) = true := by rw [bne_iff_ne]; omega
    have Hfin := Lib.hid (pack_fails (w := w) (w' := w1) (l := l) (L := byName l) (n := k) (by unfold packErr; rw [if_neg h100, ← Hk.out, if_pos hz]) hz Hb.out)
    clear hz
    go_wp2_with fail
    go_ret2
    exact Hfin.out
end Go.Proofs.YtdmladdpbdcpjaaDoor
