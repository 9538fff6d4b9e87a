/-
  The reference's Unpack. (Printed by wip/abexp.py.)
-/
import Derived.Test.YtdmladdpbdcpjaaDoorArkRu5
namespace Go.Proofs.YtdmladdpbdcpjaaDoor
open Go.RowKit

set_option linter.unusedSimpArgs false

attribute [local go_sem] lt1 lt2 lt3 lt4 lt5 lt6

set_option maxHeartbeats 8000000 in
set_option maxRecDepth 100000 in
theorem unpack_ref (w : World) (b : List UInt8) (A : Option Addr) (c : Nat) (hb : Bs w A c b) (hl : b.length ≤ 140737488351232) :
    Calls Tryd.prog 31 #[.slice A b.length c] w (UnPostR w b) := by
  by_cases hbig : 1048576 < b.length
  · have hI : (1048576 : Int) < b.length := by omega
    have Hfin := Lib.hid (unr_fails (w := w) (w' := w) (b := b) (n := 13) (by unfold unErr; rw [if_pos hbig]) (by decide) (Below.refl _ _))
    clear hb
    go_enter Tryd.func31, Tryd.ntmps31
    go_wp2_with fail
    go_ret2
    exact Hfin.out
  have hI : ¬ (1048576 : Int) < b.length := by omega
  have Hb := Lib.hid hb
  have hcap := hb.le
  have hbl : b.length ≤ 1048576 := by omega
  have Hbig := Lib.hid hbig
  have Hfail : Hid (∀ n w', unErr b = n → n ≠ 0 → Below w.heap.size w w' → UnPostR w b (.returned (.tuple #[.slice none 0 0, .int .i64 (n : Nat)])) w') := Lib.hid fun n w' h1 h2 h3 => unr_fails h1 h2 h3
  have H17 : Hid (readH b = none → unErr b = 17) := Lib.hid fun h => by unfold unErr; rw [if_neg Hbig.out, h]
  have Hget := Lib.hid fun (w' : World) (h : Below w.heap.size w w') (a k n : Nat) (aI : Int) (ea : aI = a) (hk : k ≤ 4) (hs : a + k ≤ b.length) => get_any w' b A c a k b.length ea rfl (hb.keep (Cells.of_below h)) hk hs
  have H0 : Hid (UrRel w b (.slice none 0 0) (.slice none 0 0) (.int .i64 0) w) := Lib.hid ⟨[], 0, by omega, rfl, by simp, FlO.nil _ _, World.ownsRow_nil _ _ _ _, Below.refl _ _, by simp [locsB, filesH], by simp⟩
  clear hb hbig
  go_enter Tryd.func31, Tryd.ntmps31
  go_wp2_with fail
  go_loopw [4, 5, 6] (fun lv sv av wr => UrRel w b lv sv av wr) (fun _ _ av _ => b.length - (intOf av).toNat)
  case atStart => exact H0.out
  case round =>
    clear H0
    obtain ⟨es, a, ha, rfl, hrd, hfl, hsm, hB, hlb, hel⟩ := hrel
    have hfll : (filesH es).length = es.length := by simp [filesH]
    obtain ⟨csF, hcs, hrow⟩ := hfl
    obtain ⟨Al, cl, rfl, _, _, hcl, hclm⟩ := own_form hrow
    obtain ⟨As, cs, rfl, _, _, _, _⟩ := own_form hsm
    have hfl0 : FlO wr w.heap.size (.slice Al (filesH es).length cl) (filesH es) := ⟨csF, hcs, hrow⟩
    rw [hfll] at hfl0 hcl ⊢
    have Hrd := Lib.hid hrd
    have Hfl := Lib.hid hfl0
    have Hsm := Lib.hid hsm
    have HB := Lib.hid hB
    have hB2 := hB.size
    have Hfll := Lib.hid hfll
    clear hrd hcs hrow hsm hB hfll hfl0
    have har : (0 : Int) ≤ a := by omega
    by_cases hp : (b.drop a).take 4 = [80, 75, 3, 4]
    · have h4 : 4 ≤ (b.drop a).length := by
        have := congrArg List.length hp
        rw [List.length_take] at this
        simp at this ⊢
        omega
      obtain ⟨x0, x1, x2, x3⟩ := (four_of h4).1 hp
      rw [List.length_drop] at h4
      have hgd : ∀ j, (b.drop a).getD j 0 = b.getD (a + j) 0 := fun j => by simp [List.getD_eq_getElem?_getD, List.getElem?_drop]
      rw [hgd] at x0 x1 x2 x3
      obtain ⟨bb, oo, rfl, c0⟩ := (Hb.out.keep (Cells.of_below HB.out)).at_ (k := a) (by omega)
      obtain ⟨_, _, e1, c1⟩ := (Hb.out.keep (Cells.of_below HB.out)).at_ (k := a + 1) (by omega)
      obtain ⟨_, _, e2, c2⟩ := (Hb.out.keep (Cells.of_below HB.out)).at_ (k := a + 2) (by omega)
      obtain ⟨_, _, e3, c3⟩ := (Hb.out.keep (Cells.of_below HB.out)).at_ (k := a + 3) (by omega)
      cases e1
      cases e2
      cases e3
      rw [show b.getD a 0 = 80 from x0] at c0
      rw [x1] at c1
      rw [x2] at c2
      rw [x3] at c3
      have t1 : ((a : Int) + 1).toNat = a + 1 := by omega
      have t2 : ((a : Int) + 2).toNat = a + 2 := by omega
      have t3 : ((a : Int) + 3).toNat = a + 3 := by omega
      have q0 : (a : Int) + 4 ≤ b.length := by omega
      have q1 : (a : Int) + 1 < b.length := by omega
      have q2 : (a : Int) + 2 < b.length := by omega
      have q3 : (a : Int) + 3 < b.length := by omega
      have q4 : (a : Int) < b.length := by omega
      clear hgd x0 x1 x2 x3
      by_cases h30 : b.length - a < 30
      · have hI30 : (b.length : Int) - a < 30 := by omega
        have Hfin := Lib.hid (Hfail.out 17 wr (H17.out (by rw [Hrd.out, readH_short hp (by rw [List.length_drop]; unfold headL; omega), Option.map_none])) (by decide) HB.out)
        clear hp
        go_wp2_with fail
        go_ret2
        exact Hfin.out
      have hI30 : ¬ (b.length : Int) - a < 30 := by omega
      have Hg1 := Lib.hid (Hget.out wr HB.out (a + 18) 4 b.length ((a : Int) + 18) (by omega) (by omega) (by omega))
      have Hg2 := Lib.hid (Hget.out wr HB.out (a + 26) 2 b.length ((a : Int) + 26) (by omega) (by omega) (by omega))
      have Hp := Lib.hid hp
      clear hp
      go_wp2_with fail
      refine Hg1.out.mono ?_
      rintro e w1 ⟨rfl, rfl⟩
      obtain ⟨ln, hln⟩ : ∃ n, n = headN (b.drop a) 18 4 := ⟨_, rfl⟩
      obtain ⟨nm, hnm⟩ : ∃ n, n = headN (b.drop a) 26 2 := ⟨_, rfl⟩
      have hlnb := headN_le (b.drop a) 18 4
      have hnmb := headN_le (b.drop a) 26 2
      rw [← hln] at hlnb
      rw [← hnm] at hnmb
      rw [show numOf ((b.drop (a + 18)).take 4) = ln by rw [hln, headN, List.drop_drop]]
      have hgn : numOf ((b.drop (a + 26)).take 2) = nm := by rw [hnm, headN, List.drop_drop]
      have HgN := Lib.hid hgn
      have Hln := Lib.hid hln
      have Hnm := Lib.hid hnm
      clear hln hnm hgn t1 t2 t3 q0 q1 q2 q3 c0 c1 c2 c3
      go_wp2_with fail
      refine Hg2.out.mono ?_
      rintro e w1 ⟨rfl, rfl⟩
      rw [HgN.out]
      have hlnb' : ln < 4294967296 := hlnb
      have hnmb' : nm < 65536 := hnmb
      have Hhl : Hid (headL (b.drop a) = 30 + nm + ln) := Lib.hid (by rw [headL, ← Hln.out, ← Hnm.out])
      clear hlnb hnmb Hg1 Hg2
      by_cases hsh : b.length - a - 30 < ln + nm
      · have hIsh : (b.length : Int) - a - 30 < ln + nm := by omega
        have Hfin := Lib.hid (Hfail.out 17 wr (H17.out (by rw [Hrd.out, readH_short Hp.out (by rw [List.length_drop, Hhl.out]; omega), Option.map_none])) (by decide) HB.out)
        go_wp2_with fail
        go_ret2
        exact Hfin.out
      have hIsh : ¬ (b.length : Int) - a - 30 < ln + nm := by omega
      obtain ⟨A1, hA1⟩ : ∃ X, X = cutA (some ⟨bb, oo, none⟩) c (a + 30) := ⟨_, rfl⟩
      obtain ⟨A2, hA2⟩ : ∃ X, X = cutA (some ⟨bb, oo, none⟩) c (a + 30 + nm) := ⟨_, rfl⟩
      have s1 : ∀ w', (Instr.slice 28 (.slice (some ⟨bb, oo, none⟩) b.length c) (some (.int .i64 ((a : Int) + 30))) (some (.int .i64 ((a : Int) + 30 + nm))) none).run Tryd.prog w' = .ok (.slice A1 nm (c - (a + 30))) w' := fun w' => by
        rw [hA1]
        exact slice_lh (some ⟨bb, oo, none⟩) b.length c (a + 30) nm (by omega) w'
      have s2 : ∀ w', (Instr.slice 28 (.slice (some ⟨bb, oo, none⟩) b.length c) (some (.int .i64 ((a : Int) + 30 + nm))) (some (.int .i64 ((a : Int) + 30 + nm + ln))) none).run Tryd.prog w' = .ok (.slice A2 ln (c - (a + 30 + nm))) w' := fun w' => by
        rw [hA2]
        exact slice_lh (some ⟨bb, oo, none⟩) b.length c (a + 30 + nm) ln (by omega) w'
      obtain ⟨nmS, hnmS⟩ : ∃ X : ByteArray, X = ⟨((b.drop (a + 30)).take nm).toArray⟩ := ⟨_, rfl⟩
      obtain ⟨dat, hdat⟩ : ∃ X, X = (b.drop (a + 30 + nm)).take ln := ⟨_, rfl⟩
      have hdl : dat.length = ln := by rw [hdat, List.length_take, List.length_drop]; omega
      have Hcv : Hid (∀ w', Below w.heap.size w w' → (convert 28 9 (.slice A1 nm (c - (a + 30)))).run Tryd.prog w' = .ok (.string nmS) w') := Lib.hid fun w' hw' => by
        have h1 := str_of_bs (((Hb.out.keep (Cells.of_below hw')).tail (l := a + 30) (by omega)).front (m := nm) (by rw [List.length_drop]; omega))
        rw [List.length_take, List.length_drop, Nat.min_eq_left (by omega)] at h1
        rw [hnmS, hA1]
        exact h1
      have Hby : Hid (∀ w', Below w.heap.size w w' → Calls Tryd.prog 45 #[.slice A2 ln (c - (a + 30 + nm))] w' (BytesPost dat w')) := Lib.hid fun w' hw' => by
        have h1 := bytes_any dat A2 (c - (a + 30 + nm)) w' (by omega) (by rw [hdat, hA2]; exact ((Hb.out.keep (Cells.of_below hw')).tail (l := a + 30 + nm) (by omega)).front (m := ln) (by rw [List.length_drop]; omega))
        rw [hdl] at h1
        exact h1
      have Hhd : Hid (headF (b.drop a) = ((nmS, dat), headN (b.drop a) 14 4)) := Lib.hid (by
        rw [headF, ← Hln.out, ← Hnm.out, hnmS, hdat, List.drop_drop, List.drop_drop, Nat.add_assoc a 30 nm])
      have Hdl := Lib.hid hdl
      have k1 : IntKind.i64.wrap ((a : Int) + 30) = (a : Int) + 30 := by rw [IntKind.wrap_i64]; omega
      have k2 : IntKind.i64.wrap ((a : Int) + 30 + nm) = (a : Int) + 30 + nm := by rw [IntKind.wrap_i64]; omega
      have k3 : IntKind.i64.wrap ((a : Int) + 30 + nm + ln) = (a : Int) + 30 + nm + ln := by rw [IntKind.wrap_i64]; omega
      have hes : es.length ≤ 1048576 := by omega
      clear hA1 hA2 hnmS hdat hdl
      go_wp2_with fail
      with_reducible refine g_mix [(0, none), (1, none), (2, none), (3, none), (4, none), (5, none), (6, none), (7, none), (8, none), (9, none), (10, none), (11, none), (12, none), (13, none), (14, none), (15, none), (16, none), (17, none), (18, none), (19, none), (20, none), (21, none), (22, some false), (23, none), (24, some false), (25, some false), (26, none)] (fun w' => (convert 28 9 (.slice A1 nm (c - (a + 30)))).run Tryd.prog w' = .ok (.string nmS) w') (by kernel_rfl) (by kernel_rfl) ?_
      intro OPS
      simp only [mixOf, nthO, consO]
      iterate 22 ((with_reducible refine m_val (v := ?_) ?_ ?_ ?_); rotate_left; (rintro _ h1; (try simp only [k1, k2, k3]); go_simp; first | done | rfl | (constructor <;> rfl)); exact (Hcv.out _ ⟨HB.out.os, HB.out.tape, HB.out.output, HB.out.size, HB.out.block⟩))
      with_reducible refine m_one ?_
      refine l_call ?_ ((Hby.out wr.drew ⟨HB.out.os, HB.out.tape, HB.out.output, HB.out.size, HB.out.block⟩).mono ?_)
      · go_simp
      rintro e w1 ⟨v1, rfl, hown, hbel⟩
      have hbel' : Below wr.heap.size wr w1 := ⟨hbel.os, hbel.tape, hbel.output, hbel.size, hbel.block⟩
      have HB1 := Lib.hid (HB.out.trans (hbel'.mono HB.out.size))
      have Hfl1 := Lib.hid (Hfl.out.below hbel')
      have Hsm1 := Lib.hid (int_below Hsm.out hbel')
      have Hown : Hid (OwnB w1 w.heap.size v1 dat) := Lib.hid (own_base hown HB.out.size)
      obtain ⟨Av, cv, rfl, _, _, _, _⟩ := own_form Hown.out
      clear hown hbel hbel' s1 s2 Hby
      refine ⟨_, rfl, ?_⟩
      refine m_keep (Hcv.out _ HB1.out) ?_
      iterate 1 ((with_reducible refine m_val (v := ?_) ?_ ?_ ?_); rotate_left; (rintro _ h1; go_simp; first | done | rfl | (constructor <;> rfl)); exact (Hcv.out _ HB1.out))
      with_reducible refine m_one ?_
      iterate 1 (with_reducible refine l_val (v := ?_) (w' := ?_) ?_ ?_; rotate_left 2; (go_simp; first | done | rfl | (constructor <;> rfl)))
      refine m_keep (Hcv.out _ (HB1.out.alloc HB1.out.size _)) ?_
      with_reducible refine m_one ?_
      refine append_file rfl (.tmp 73) (.tmp 97) rfl w.heap.size (.slice Al es.length cl) (filesH es) ?_ (Hfl1.out.below ((Below.refl _ _).alloc (Nat.le_refl _) _)) w1.heap.size nmS (.slice Av dat.length cv) dat ?_ (heap_alloc_new _ _) (Hown.out.alloc _) (by rw [Hfll.out]; omega) (by have := HB1.out.size; simp; omega) ?_
      · simp [Act.eval, Act.put]
      · simp [Act.eval, Act.put]
      intro lv' w2 hfo hgrow hb2
      have HB2 := Lib.hid ((HB1.out.alloc HB1.out.size _).trans hb2)
      have hsm2 : w2.ownsRow w.heap.size 3 1 (.slice As es.length cs) es.length (ints (es.map (·.2))) := by
        obtain ⟨_, _, hrv⟩ := Hfl1.out.below ((Below.refl _ _).alloc (Nat.le_refl _) (.cells #[.string nmS, .slice Av dat.length cv] 46))
        exact int_grown_file (World.ownsRow.alloc Hsm1.out _) hrv hgrow
      have Hfo := Lib.hid hfo
      have Hsm2 := Lib.hid hsm2
      clear hfo hgrow hb2 hsm2
      refine m_keep (Hcv.out _ HB2.out) ?_
      iterate 1 ((with_reducible refine m_val (v := ?_) ?_ ?_ ?_); rotate_left; (rintro _ h1; go_simp; first | done | rfl | (constructor <;> rfl)); exact (Hcv.out _ HB2.out))
      with_reducible refine m_end ?_
      simp only [Act.put, List.setIfInBounds_toArray, List.set_cons_zero, List.set_cons_succ]
      have Hg3 := Lib.hid (Hget.out w2 HB2.out (a + 14) 4 b.length ((a : Int) + 14) (by omega) (by omega) (by omega))
      clear k1 k2 k3 Hcv
      go_wp2_with fail
      refine Hg3.out.mono ?_
      rintro e w3 ⟨rfl, rfl⟩
      obtain ⟨cr, hcr⟩ : ∃ n, n = headN (b.drop a) 14 4 := ⟨_, rfl⟩
      have hcrb := headN_le (b.drop a) 14 4
      rw [← hcr] at hcrb Hhd
      rw [show numOf ((b.drop (a + 14)).take 4) = cr by rw [hcr, headN, List.drop_drop]]
      have hcrb' : cr < 4294967296 := hcrb
      obtain ⟨iI, hiI, hzI, hsI, hbI⟩ := info_parts infoInt
      clear hcr hcrb Hg3
      go_wp2_with (first | (at_builtin; refine wpList_append_own _ rfl _ _ 91 rfl w.heap.size 3 iI (.int .i64 0) 1 8 Tryd.underlying91 hiI hzI hsI hbI rfl (by omega) (.slice As es.length cs) es.length (ints (es.map (·.2))) rfl (World.ownsRow.alloc Hsm2.out _) ⟨w2.heap.size, 0, none⟩ 1 1 [.int .i64 (cr : Nat)] rfl rfl (fun j v hv => World.news_of_block (heap_alloc_new _ _) j v hv) (by intro u hu; rw [List.mem_singleton.1 hu]; rfl) (by unfold maxLen; omega) (by omega) (by have := HB2.out.size; simp; omega) ?_))
      intro sv' w3 hown3 hgrow3 _
      have HB3 := Lib.hid (((HB2.out.alloc HB2.out.size _).grown hgrow3 (by have := HB2.out.size; simp; omega) (fun q hq => (own_blk Hsm2.out q hq).1)))
      have Hfo3 := Lib.hid (FlO.grown_int (Hfo.out.below ((Below.refl _ _).alloc (Nat.le_refl _) (.cells #[.int .i64 (cr : Nat)] 3))) (World.ownsRow.alloc Hsm2.out _) hgrow3)
      have hll : headL (b.drop a) ≤ (b.drop a).length := by rw [Hhl.out, List.length_drop]; omega
      have hfe : filesH (es ++ [headF (b.drop a)]) = filesH es ++ [(nmS, dat)] := by rw [Hhd.out]; simp [filesH]
      have Hfin : Hid (UrRel w b lv' sv' (.int .i64 ((a : Int) + 30 + nm + ln)) w3) := Lib.hid ⟨es ++ [headF (b.drop a)], a + headL (b.drop a), by rw [List.length_drop] at hll; omega, by rw [Hhl.out]; congr 1; omega, readH_take Hrd.out Hp.out hll, by rw [hfe]; exact Hfo3.out, by
        rw [List.length_append, Hhd.out, List.map_append, show ints (es.map (·.2) ++ [((nmS, dat), cr)].map (·.2)) = ints (es.map (·.2)) ++ [.int .i64 (cr : Nat)] by simp [ints]]
        exact hown3, HB3.out, by
        have h1 := headF_len hll
        rw [hfe, locsB_snoc]
        rw [Hhd.out] at h1
        rw [h1]
        omega, by rw [List.length_append, Hhl.out]; simp; omega⟩
      have hmes : Hid ((b.length - (a + 30 + nm + ln)) < b.length - a) := Lib.hid (by omega)
      clear hown3 hgrow3 hfe hll
      go_wp2_with fail
      go_roundw
      case rel => exact Hfin.out
      case measure => simp only [intOf]; omega
    · have hstop : readH b = some es := by rw [Hrd.out, readH_stop hp, Option.map_some, List.append_nil]
      have Hstop := Lib.hid hstop
      have Hun : Hid (unErr b = if 100 < es.length then 14 else if checkH [] es ≠ 0 then checkH [] es else if packB (byName (filesH es)) = b then 0 else 15) := Lib.hid (by
        unfold unErr
        rw [if_neg Hbig.out, hstop])
      obtain ⟨_, hB2b⟩ := readH_bound _ b es (Nat.le_refl _) hstop
      have Hbd := Lib.hid hB2b
      clear hstop hB2b
      have hcase : (b.length : Int) < a + 4 ∨ ((a : Int) + 4 ≤ b.length ∧ ∃ bb oo, A = some ⟨bb, oo, none⟩ ∧ ∃ x0 x1 x2 x3 : Int, wr.cell? ⟨bb, oo + a, none⟩ = some (.int .u8 x0) ∧ wr.cell? ⟨bb, oo + (a + 1), none⟩ = some (.int .u8 x1) ∧ wr.cell? ⟨bb, oo + (a + 2), none⟩ = some (.int .u8 x2) ∧ wr.cell? ⟨bb, oo + (a + 3), none⟩ = some (.int .u8 x3) ∧ (x0 ≠ 80 ∨ x0 = 80 ∧ x1 ≠ 75 ∨ x0 = 80 ∧ x1 = 75 ∧ x2 ≠ 3 ∨ x0 = 80 ∧ x1 = 75 ∧ x2 = 3 ∧ x3 ≠ 4)) := by
        by_cases h4 : a + 4 ≤ b.length
        · right
          refine ⟨by omega, ?_⟩
          obtain ⟨bb, oo, rfl, c0⟩ := (Hb.out.keep (Cells.of_below HB.out)).at_ (k := a) (by omega)
          obtain ⟨_, _, e1, c1⟩ := (Hb.out.keep (Cells.of_below HB.out)).at_ (k := a + 1) (by omega)
          obtain ⟨_, _, e2, c2⟩ := (Hb.out.keep (Cells.of_below HB.out)).at_ (k := a + 2) (by omega)
          obtain ⟨_, _, e3, c3⟩ := (Hb.out.keep (Cells.of_below HB.out)).at_ (k := a + 3) (by omega)
          cases e1
          cases e2
          cases e3
          refine ⟨bb, oo, rfl, _, _, _, _, c0, c1, c2, c3, ?_⟩
          have hgd : ∀ j, (b.drop a).getD j 0 = b.getD (a + j) 0 := fun j => by simp [List.getD_eq_getElem?_getD, List.getElem?_drop]
          have hn := fun h => hp ((four_of (by rw [List.length_drop]; omega)).2 h)
          rw [hgd, hgd, hgd, hgd] at hn
          have hx : ∀ (x : UInt8) (n : Nat), n < 256 → ((x.toNat : Int) = n ↔ x = UInt8.ofNat n) := fun x n hn => by
            constructor
            · intro h
              apply UInt8.toNat_inj.1
              rw [UInt8.toNat_ofNat']
              omega
            · rintro rfl
              rw [UInt8.toNat_ofNat']
              omega
          have y0 := hx (b.getD a 0) 80 (by decide)
          have y1 := hx (b.getD (a + 1) 0) 75 (by decide)
          have y2 := hx (b.getD (a + 2) 0) 3 (by decide)
          have y3 := hx (b.getD (a + 3) 0) 4 (by decide)
          by_cases z0 : ((b.getD a 0).toNat : Int) = 80
          · by_cases z1 : ((b.getD (a + 1) 0).toNat : Int) = 75
            · by_cases z2 : ((b.getD (a + 2) 0).toNat : Int) = 3
              · refine .inr (.inr (.inr ⟨z0, z1, z2, fun z3 => hn ⟨y0.1 z0, y1.1 z1, y2.1 z2, y3.1 z3⟩⟩))
              · exact .inr (.inr (.inl ⟨z0, z1, z2⟩))
            · exact .inr (.inl ⟨z0, z1⟩)
          · exact .inl z0
        · left; omega
      have t1 : ((a : Int) + 1).toNat = a + 1 := by omega
      have t2 : ((a : Int) + 2).toNat = a + 2 := by omega
      have t3 : ((a : Int) + 3).toNat = a + 3 := by omega
      clear hp
      by_cases h100 : 100 < es.length
      · have h100I : (100 : Int) < es.length := by omega
        have Hfin := Lib.hid (Hfail.out 14 wr (by rw [Hun.out, if_pos h100]) (by decide) HB.out)
        rcases hcase with h4 | ⟨q0, bb, oo, rfl, x0, x1, x2, x3, c0, c1, c2, c3, h | ⟨rfl, h⟩ | ⟨rfl, rfl, h⟩ | ⟨rfl, rfl, rfl, h⟩⟩
        · have q0 : ¬ (a : Int) + 4 ≤ b.length := by omega
          go_wp2_with fail
          go_ret2
          exact Hfin.out
        all_goals
          have q1 : (a : Int) + 1 < b.length := by omega
          have q2 : (a : Int) + 2 < b.length := by omega
          have q3 : (a : Int) + 3 < b.length := by omega
          have q4 : (a : Int) < b.length := by omega
          go_wp2_with fail
          go_ret2
          exact Hfin.out
      · have h100I : ¬ (100 : Int) < es.length := by omega
        have Hun2 : Hid (unErr b = if checkH [] es ≠ 0 then checkH [] es else if packB (byName (filesH es)) = b then 0 else 15) := Lib.hid (by rw [Hun.out, if_neg h100])
        obtain ⟨W, hWE⟩ : ∃ W, W = wr := ⟨_, rfl⟩
        subst hWE
        have hfo := Hfl.out.own
        have hfa : FlAt W Al cl (filesH es) := by
          obtain ⟨A', c', he, hh⟩ := hfo.files
          rw [Hfll.out] at he
          simp only [Value.slice.injEq, true_and] at he
          obtain ⟨rfl, rfl⟩ := he
          exact hh
        have Hfa := Lib.hid hfa
        have Hsz : Hid (∀ p ∈ filesH es, p.1.size ≤ 1048576) := Lib.hid fun p hp => by
          obtain ⟨x, hx, rfl⟩ := List.mem_map.1 hp
          have := (Hbd.out x hx).1
          omega
        have Hnm : Hid (∀ i, i < es.length → ∀ w', Below W.heap.size W w' → Calls Tryd.prog 49 #[.slice Al (i + 1 : Nat) cl] w' (NmPost w' (filesH (es.take (i + 1))))) := Lib.hid fun i hi w' hw' => by
          have h1 := names_ref w' Al cl ((filesH es).take (i + 1)) ((Hfa.out.below hw').front (by rw [Hfll.out]; omega)) (by rw [List.length_take]; omega) (fun p hp => Hsz.out p (List.mem_of_mem_take hp))
          rw [List.length_take, Hfll.out, Nat.min_eq_left (by omega)] at h1
          rw [show filesH (es.take (i + 1)) = (filesH es).take (i + 1) by simp [filesH, List.map_take]]
          exact h1
        clear hfo hfa
        rcases hcase with h4 | ⟨q0, bb, oo, rfl, x0, x1, x2, x3, c0, c1, c2, c3, h | ⟨rfl, h⟩ | ⟨rfl, rfl, h⟩ | ⟨rfl, rfl, rfl, h⟩⟩
        all_goals first
          | (have q0 : ¬ (a : Int) + 4 ≤ b.length := by omega)
          | (have q1 : (a : Int) + 1 < b.length := by omega
             have q2 : (a : Int) + 2 < b.length := by omega
             have q3 : (a : Int) + 3 < b.length := by omega
             have q4 : (a : Int) < b.length := by omega)
        all_goals
          go_wp2_with fail
          go_loopw [9] (fun iv wr => UsRel W es iv wr) (fun iv _ => es.length - (intOf iv).toNat)
          case atStart => exact ⟨0, by omega, rfl, rfl, rfl, Below.refl _ _⟩
          case round =>
            obtain ⟨i, hi, rfl, hck, hn0, hBs⟩ := hrel
            have Hck := Lib.hid hck
            have Hn0 := Lib.hid hn0
            have HBs := Lib.hid hBs
            clear hck hn0 hBs
            have hir : (0 : Int) ≤ i := by omega
            by_cases hlt : i < es.length
            · have hlI : (i : Int) < es.length := by omega
              have hs3 : ∀ w', (Instr.slice 22 (.slice Al es.length cl) none (some (.int .i64 ((i : Int) + 1))) none).run Tryd.prog w' = .ok (.slice Al (i + 1) cl) w' := fun w' => slicef_hi Al es.length cl (i + 1) (by omega) w'
              have Hn := Lib.hid (Hnm.out i hlt wr HBs.out)
              go_wp2_with fail
              refine Hn.out.mono ?_
              rintro e w1 ⟨rfl, hb1⟩
              have hn1 := names_snoc hlt Hn0.out
              have Hdr := Lib.hid (drop_getE hlt)
              have Htk := Lib.hid (take_getE hlt)
              obtain ⟨n, hn⟩ : ∃ n, n = namesErr [] (namesOf (filesH (es.take (i + 1)))) := ⟨_, rfl⟩
              have hnle : n ≤ 12 := by rw [hn]; rcases namesErr_le (namesOf (filesH (es.take (i + 1)))) [] with h | h | h <;> omega
              rw [← hn] at hn1 ⊢
              have HB1 := Lib.hid (HBs.out.trans (hb1.mono HBs.out.size))
              have HW1 := Lib.hid (HB.out.trans (HB1.out.mono HB.out.size))
              have Hn1 := Lib.hid hn1
              have HnE := Lib.hid hn
              clear hn1 hn hb1 hs3 Hn
              by_cases hz : n = 0
              case neg =>
                have hnb : ((n : Int) != 0) = true := by rw [bne_iff_ne]; omega
                have Hfin := Lib.hid (Hfail.out n w1 (by
                  have hc : checkH [] es = n := by rw [Hck.out, Hdr.out, checkH_cons, if_pos (by rw [← Hn1.out]; exact hz), ← Hn1.out]
                  rw [Hun2.out, if_pos (by rw [hc]; exact hz), hc]) hz HW1.out)
                clear hz
                go_wp2_with fail
                go_ret2
                exact Hfin.out
              case pos =>
                subst hz
                obtain ⟨bl, ol, Ai, ci, hAl, f1, f2, hbs⟩ := (Hfa.out.below HB1.out).at_ (i := i) (by rw [Hfll.out]; exact hlt)
                have hgd : (filesH es).getD i noFl = (es.getD i noEn).1 := by simp [filesH, List.getD_eq_getElem?_getD, hlt]
                rw [hgd] at f2 hbs
                obtain ⟨gs, cs2, hAs⟩ := own_atv Hsm.out (by omega)
                simp only [Value.slice.injEq, true_and] at hAs
                obtain ⟨hAs1, hAs2⟩ := hAs
                have f3 : w1.cell? ⟨gs, i, none⟩ = some (.int .i64 ((es.getD i noEn).2 : Nat)) := by
                  have h0 := int_below Hsm.out HB1.out
                  rw [hAs1] at h0
                  refine own_cell h0 ?_
                  simp [ints, List.getD_eq_getElem?_getD, hlt]
                subst hAl
                subst hAs1
                have F2 := Lib.hid f2
                have F3 := Lib.hid f3
                have Hcrc := Lib.hid (crc_ref w1.drew (es.getD i noEn).1.2 Ai ci (hbs.keep fun _ _ h => h))
                have hkc := crcOf_lt (es.getD i noEn).1.2
                clear f1 hbs hgd hAs2
                generalize es.getD i noEn = p at *
                obtain ⟨⟨nmS, dat⟩, cr⟩ := p
                dsimp only at f2 f3 hkc Hcrc F2 F3
                obtain ⟨kc, hkcE⟩ : ∃ k, k = crcOf dat := ⟨_, rfl⟩
                rw [← hkcE] at Hcrc hkc
                have HkcE := Lib.hid hkcE
                have hkw : IntKind.i64.wrap (kc : Int) = kc := by rw [IntKind.wrap_i64]; omega
                clear hkcE hkc
                go_wp2_with fail
                with_reducible refine g_mix [(0, none), (1, none), (2, none), (3, none), (4, none), (7, none), (8, none), (9, none), (10, none), (5, some false), (6, none), (11, none)] (fun w' => w'.cell? ⟨bl, ol + i * 2 + 1, none⟩ = some (.slice Ai dat.length ci) ∧ w'.cell? ⟨gs, i, none⟩ = some (.int .i64 (cr : Nat))) (by kernel_rfl) (by kernel_rfl) ?_
                intro OPS
                simp only [mixOf, nthO, consO]
                iterate 9 ((with_reducible refine m_val (v := ?_) ?_ ?_ ?_); rotate_left; (rintro _ ⟨h1, h2⟩; go_simp; first | done | rfl | (constructor <;> rfl)); exact ⟨f2, f3⟩)
                with_reducible refine m_one ?_
                refine l_call ?_ (Hcrc.out.mono ?_)
                · go_simp
                rintro e w3 ⟨rfl, rfl⟩
                refine ⟨_, rfl, ?_⟩
                refine m_keep ⟨F2.out, F3.out⟩ ?_
                by_cases hcc : kc = cr
                case neg =>
                  have hb3 : ((kc : Int) != (cr : Int)) = true := by rw [bne_iff_ne]; omega
                  have Hfin := Lib.hid (Hfail.out 16 w1.drew (by
                    have hc : checkH [] es = 16 := by rw [Hck.out, Hdr.out, checkH_cons, if_neg (by rw [← Hn1.out]; decide), if_pos (by rw [← HkcE.out]; exact hcc)]
                    rw [Hun2.out, if_pos (by rw [hc]; decide), hc]) (by decide) ⟨HW1.out.os, HW1.out.tape, HW1.out.output, HW1.out.size, HW1.out.block⟩)
                  clear hcc
                  iterate 2 ((with_reducible refine m_val (v := ?_) ?_ ?_ ?_); rotate_left; (rintro _ ⟨h1, h2⟩; (try simp only [hkw, hb3]); go_simp; first | done | rfl | (constructor <;> rfl)); exact ⟨F2.out, F3.out⟩)
                  with_reducible refine m_end ?_
                  simp only [Act.put, List.setIfInBounds_toArray, List.set_cons_zero, List.set_cons_succ]
                  go_wp2_with fail
                  go_ret2
                  exact Hfin.out
                case pos =>
                  subst hcc
                  iterate 2 ((with_reducible refine m_val (v := ?_) ?_ ?_ ?_); rotate_left; (rintro _ ⟨h1, h2⟩; (try simp only [hkw]); go_simp; first | done | rfl | (constructor <;> rfl)); exact ⟨F2.out, F3.out⟩)
                  with_reducible refine m_end ?_
                  simp only [Act.put, List.setIfInBounds_toArray, List.set_cons_zero, List.set_cons_succ]
                  have Hfin : Hid (UsRel W es (.int .i64 ((i : Int) + 1)) w1.drew) := Lib.hid ⟨i + 1, by omega, by simp, by
                    rw [Hck.out, Hdr.out, checkH_cons, if_neg (by rw [← Hn1.out]; decide), if_neg (by rw [← HkcE.out]; simp), Htk.out]
                    simp [lowsH], HnE.out.symm, ⟨HB1.out.os, HB1.out.tape, HB1.out.output, HB1.out.size, HB1.out.block⟩⟩
                  clear hkw f2 f3
                  go_wp2_with fail
                  go_roundw
                  case rel => exact Hfin.out
                  case measure => simp [intOf]; omega
            · have hlI : ¬ (i : Int) < es.length := by omega
              obtain rfl : i = es.length := by omega
              have hck0 : checkH [] es = 0 := by rw [Hck.out, List.drop_length]; rfl
              have hun3 : unErr b = if packB (byName (filesH es)) = b then 0 else 15 := by rw [Hun2.out, if_neg (by rw [hck0]; simp)]
              have hby := byname_ref wr Al cl (filesH es) (Hfa.out.below HBs.out) (by rw [Hfll.out]; omega)
              rw [Hfll.out] at hby
              have Hby := Lib.hid hby
              have Hun3 := Lib.hid hun3
              have HWr := Lib.hid (HB.out.trans (HBs.out.mono HB.out.size))
              clear hck0 hby hun3
              go_wp2_with fail
              refine Hby.out.mono ?_
              rintro e w6 ⟨v6, rfl, hown6, hb6⟩
              obtain ⟨L, hL⟩ : ∃ L, L = byName (filesH es) := ⟨_, rfl⟩
              rw [← hL] at hown6
              have hLl : L.length = es.length := by rw [hL, byName_length, Hfll.out]
              have hloc : (locsB L).length ≤ 1048576 := by rw [hL, locsB_perm (byName_perm (filesH es))]; omega
              obtain ⟨A6, c6, rfl, hat6⟩ := hown6.files
              have HB6 := Lib.hid (HWr.out.trans (hb6.mono HWr.out.size))
              have Hown6 := Lib.hid hown6
              have Har := Lib.hid (archive_ref w6 A6 c6 L hat6 (by omega) hloc)
              have HL := Lib.hid hL
              clear hown6 hb6 hL hat6 hLl hloc Hby
              go_wp2_with fail
              refine Har.out.mono ?_
              rintro e w7 ⟨v7, rfl, hown7, hb7⟩
              obtain ⟨A7, c7, rfl, hbs7⟩ := own_bs hown7
              have HB7 := Lib.hid (HB6.out.trans (hb7.mono HB6.out.size))
              have Hown7 := Lib.hid ((Hown6.out.base (Nat.le_trans HWr.out.size (Nat.le_refl _))).below hb7)
              have Hsame := Lib.hid (same_any (packB L) b A7 _ c7 c w7 hbs7 (Hb.out.keep (Cells.of_below HB7.out)))
              clear hown7 hb7 hbs7 Har Hown6
              go_wp2_with fail
              refine Hsame.out.mono ?_
              rintro e w8 ⟨rfl, m, rfl⟩
              have HB8 : Hid (Below w.heap.size w (w7.drewN m)) := Lib.hid ⟨HB7.out.os, HB7.out.tape, HB7.out.output, HB7.out.size, HB7.out.block⟩
              by_cases heq : packB L = b
              · have hbe : (packB L == b) = true := by rw [beq_iff_eq]; exact heq
                rw [hbe]
                have Hfin : Hid (UnPostR w b (.returned (.tuple #[.slice A6 L.length c6, .int .i64 0])) (w7.drewN m)) := Lib.hid (by
                  have h0 : unErr b = 0 := by rw [Hun3.out, ← HL.out, if_pos heq]
                  refine ⟨_, by rw [h0]; rfl, ?_, HB8.out⟩
                  unfold unFiles
                  rw [if_pos h0, Hstop.out]
                  dsimp only
                  rw [← HL.out]
                  exact Hown7.out.keep (Cells.drewN _ _) fun _ _ h => h)
                clear heq hbe Hsame
                go_wp2_with fail
                go_ret2
                exact Hfin.out
              · have hbe : (packB L == b) = false := by rw [beq_eq_false_iff_ne]; exact heq
                rw [hbe]
                have Hfin := Lib.hid (Hfail.out 15 (w7.drewN m) (by rw [Hun3.out, ← HL.out, if_neg heq]) (by decide) HB8.out)
                clear heq hbe Hsame
                go_wp2_with fail
                go_ret2
                exact Hfin.out
end Go.Proofs.YtdmladdpbdcpjaaDoor
