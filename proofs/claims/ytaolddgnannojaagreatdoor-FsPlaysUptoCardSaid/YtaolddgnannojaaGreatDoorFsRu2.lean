/-
  The reference: Durable.
-/
import Derived.Test.YtaolddgnannojaaGreatDoorG36
namespace Go.Proofs.YtaolddgnannojaaGreatDoor
open Go.RowKit Go.Maps

attribute [local go_sem] lt1 lt2 lt3 lt4 lt5 lt6

theorem rdur_at (R : RSt) {k : Nat} (hk : k < R.safe.length) : R.durable.getD k noFl = ((R.safe.getD k noN).1, (R.nodes.getD (R.safe.getD k noN).2 noNd).d.take (R.nodes.getD (R.safe.getD k noN).2 noNd).sy) := by
  unfold RSt.durable
  rw [List.getD_eq_getElem?_getD, List.getElem?_map, List.getElem?_eq_getElem hk, List.getD_eq_getElem?_getD (l := R.safe), List.getElem?_eq_getElem hk]
  rfl
theorem rdur_len (R : RSt) : R.durable.length = R.safe.length := by unfold RSt.durable; simp
set_option maxHeartbeats 8000000 in
set_option maxRecDepth 100000 in
theorem rdurable_any (w : World) (M : RMem) (R : RSt) (h : RAt w M R) (hl : R.safe.length ≤ 1048576) (hin : ∀ p ∈ R.safe, p.2 < R.nodes.length) (hsy : ∀ i, (R.nodes.getD i noNd).sy ≤ (R.nodes.getD i noNd).d.length) (hd : ∀ i, (R.nodes.getD i noNd).d.length ≤ 1048576) :
    Calls Tryz.prog 54 #[.pointer (some ⟨M.rb, 0, none⟩)] w (RFlPost w R.durable) := by
  obtain ⟨P, hP⟩ : ∃ P, P = RFlPost w R.durable := ⟨_, rfl⟩
  rw [← hP]
  have HP := Lib.hid hP
  have H := Lib.hid h
  obtain ⟨Aw, cw, hwv, hat⟩ := h.safe.rows
  have c2 : w.cell? ⟨M.rb, 3, none⟩ = some (.slice Aw R.safe.length cw) := by rw [← hwv]; exact h.cell 3 _ rfl
  have c1 : w.cell? ⟨M.rb, 1, none⟩ = some M.nv := h.cell 1 _ rfl
  have Hat := Lib.hid hat
  have Hin := Lib.hid hin
  have Hd := Lib.hid hd
  have Hsy := Lib.hid hsy
  obtain ⟨iF, hiF, hzF, hsF, hbF⟩ := info_parts infoFile
  have HLa : Hid (∀ k, k < R.safe.length → R.durable.getD k noFl = ((R.safe.getD k noN).1, (R.nodes.getD (R.safe.getD k noN).2 noNd).d.take (R.nodes.getD (R.safe.getD k noN).2 noNd).sy)) := Lib.hid fun k hk => rdur_at R hk
  have hLl := rdur_len R
  obtain ⟨L, hL⟩ : ∃ L, L = R.durable := ⟨_, rfl⟩
  rw [← hL] at HP HLa hLl
  have HLl := Lib.hid hLl
  clear hP h hat hwv hin hd hsy hL hLl
  go_enter Tryz.func54, Tryz.ntmps54
  go_wp2_with fail
  go_loopw [3, 4] (fun ov iv wr => RFlRel w L ov iv wr) (fun _ iv _ => L.length - (intOf iv).toNat)
  case atStart => exact ⟨0, [], by omega, rfl, trivial, World.ownsRow_nil _ _ _ _, Below.refl _ _⟩
  case round =>
    obtain ⟨i, cs, hi, rfl, hcs, hrow, hbl⟩ := hrel
    obtain ⟨Ao, co, hov⟩ := own_formT hrow
    subst hov
    have hir : (0 : Int) ≤ i := by omega
    have hil := HLl.out
    have hcw := Cells.of_below hbl
    have d2 := hcw _ _ c2
    have d1 := hcw _ _ c1
    have Hcs := Lib.hid hcs
    have Hrow := Lib.hid hrow
    have Hbl := Lib.hid hbl
    clear hcs hrow hbl
    by_cases hlt : i < R.safe.length
    · have hlI : (i : Int) < R.safe.length := by omega
      obtain ⟨b, o, rfl, q0, q1⟩ := (Hat.out.keep hcw).at_ hlt
      have hil2 := Hin.out _ (List.getElem_mem hlt)
      have hg : R.safe[i] = R.safe.getD i noN := by rw [List.getD_eq_getElem?_getD, List.getElem?_eq_getElem hlt]; rfl
      rw [hg] at hil2
      obtain ⟨g, cn, Ad, cd, e1, _, e2, e3, hbs⟩ := (H.out.below Hbl.out).node_at hil2
      rw [e1] at d1
      have hat := HLa.out i hlt
      have htk := take_getD (show i < L.length by omega)
      rw [hat] at htk
      have hdl := Hd.out (R.safe.getD i noN).2
      have hsl := Hsy.out (R.safe.getD i noN).2
      generalize R.safe.getD i noN = p at *
      obtain ⟨sy, hssy⟩ : ∃ sy, sy = (R.nodes.getD p.2 noNd).sy := ⟨_, rfl⟩
      rw [← hssy] at e3 htk hsl
      obtain ⟨d, hdd⟩ : ∃ d, d = (R.nodes.getD p.2 noNd).d := ⟨_, rfl⟩
      rw [← hdd] at e2 hbs htk hdl hsl
      have Htk := Lib.hid htk
      have Hbs := Lib.hid hbs
      have hnI : (p.2 : Int) < R.nodes.length := by omega
      clear hg hat htk hdd hssy hbs e1 hcw
      go_wp2_with fail
      obtain ⟨wd, hwd⟩ : ∃ wd, wd = wr.drew := ⟨_, rfl⟩
      with_reducible refine g_mixx [(0, 0), (1, 0), (2, 0), (3, 0), (4, 0), (5, 0), (6, 0), (7, 0), (8, 0), (9, 0), (10, 0), (11, 0), (12, 0), (13, 0), (14, 2), (15, 3)] (fun w' => (w'.cell? ⟨M.rb, 3, none⟩ = some (.slice (some ⟨b, o, none⟩) R.safe.length cw) ∧ w'.cell? ⟨M.rb, 1, none⟩ = some (.slice (some ⟨g, 0, none⟩) R.nodes.length cn)) ∧ (w'.cell? ⟨g, p.2 * 2 + 1, none⟩ = some (.int .i64 (sy : Nat)) ∧ w'.cell? ⟨b, o + i * 2 + 1, none⟩ = some (.int .i64 (p.2 : Nat))) ∧ w'.cell? ⟨g, p.2 * 2, none⟩ = some (.slice Ad d.length cd)) 0 _ rfl (by kernel_rfl) (by kernel_rfl) ?_ ?_
      · exact ⟨⟨d2, d1⟩, ⟨e3, q1⟩, e2⟩
      intro OPS HD
      simp only [mixX, nthO, consX]
      rw [← hwd]
      have d2 : wd.cell? ⟨M.rb, 3, none⟩ = some (.slice (some ⟨b, o, none⟩) R.safe.length cw) := by rw [hwd]; exact d2
      have d1 : wd.cell? ⟨M.rb, 1, none⟩ = some (.slice (some ⟨g, 0, none⟩) R.nodes.length cn) := by rw [hwd]; exact d1
      have q0 : wd.cell? ⟨b, o + i * 2, none⟩ = some (.string p.1) := by rw [hwd]; exact q0
      have q1 : wd.cell? ⟨b, o + i * 2 + 1, none⟩ = some (.int .i64 (p.2 : Nat)) := by rw [hwd]; exact q1
      have e2 : wd.cell? ⟨g, p.2 * 2, none⟩ = some (.slice Ad d.length cd) := by rw [hwd]; exact e2
      have e3 : wd.cell? ⟨g, p.2 * 2 + 1, none⟩ = some (.int .i64 (sy : Nat)) := by rw [hwd]; exact e3
      have HbsD : Hid (Bs wd Ad cd d) := Lib.hid (by rw [hwd]; exact Hbs.out.keep fun _ _ h => h)
      have hbd : Below wr.heap.size wr wd := by rw [hwd]; exact ⟨rfl, rfl, rfl, Nat.le_refl _, fun _ _ => rfl⟩
      have Hbd := Lib.hid hbd
      clear hwd hbd Hbs
      iterate 14 ((with_reducible refine x_val (v := ?_) ?_ ?_ ?_); rotate_left; (rintro _ ⟨⟨h1, h2⟩, ⟨h3, h4⟩, h5⟩; go_simp; first | done | rfl | (constructor <;> rfl)); exact ⟨⟨d2, d1⟩, ⟨e3, q1⟩, e2⟩)
      with_reducible refine x_one ?_
      obtain ⟨w3, hw3⟩ : ∃ w3, w3 = wd.alloc (.cells #[.slice none 0 0, .int .i64 0] 96) := ⟨_, rfl⟩
      with_reducible refine l_val (v := .pointer (some ⟨wd.heap.size, 0, none⟩)) (w' := w3) ?_ ?_
      · rw [hw3]
        go_simp
      have hb3 : Below wd.heap.size wd w3 := by rw [hw3]; exact (Below.refl _ _).alloc (Nat.le_refl _) _
      have hnew3 : w3.heap[wd.heap.size]? = some (.cells #[.slice none 0 0, .int .i64 0] 96 (0, 0)) := by rw [hw3]; exact heap_alloc_new _ _
      have hcw := Cells.of_below hb3
      have d2 := hcw _ _ d2
      have d1 := hcw _ _ d1
      have q0 := hcw _ _ q0
      have q1 := hcw _ _ q1
      have e2 := hcw _ _ e2
      have e3 := hcw _ _ e3
      have z0 := (blk_cells hnew3).1 0
      have z1 := (blk_cells hnew3).1 1
      have y0 := (blk_cells hnew3).2.1 0
      have y1 := (blk_cells hnew3).2.1 1
      clear hw3
      refine x_keep ⟨⟨d2, d1⟩, ⟨e3, q1⟩, e2⟩ ?_
      with_reducible refine x_three ?_
      obtain ⟨w4, hw4⟩ : ∃ w4, w4 = (w3.setCell ⟨wd.heap.size, 0, none⟩ (.slice Ad d.length cd)).setCell ⟨wd.heap.size, 1, none⟩ (.int .i64 (sy : Nat)) := ⟨_, rfl⟩
      with_reducible refine l_skip (w' := w4) ?_ ?_
      · rw [hw4]
        go_simp
      have hnew4 : w4.heap[wd.heap.size]? = some (.cells #[.slice Ad d.length cd, .int .i64 (sy : Nat)] 96 (0, 0)) := by
        rw [hw4, heap_setCell_at (heap_setCell_at hnew3 0 _) 1 _]
        rfl
      have hb4 : Below wd.heap.size wd w4 := by rw [hw4]; exact (hb3.setCell (Nat.le_refl _) _).setCell (Nat.le_refl _) _
      have hcw := Cells.of_below hb4
      have d2 := hcw _ _ (show wd.cell? ⟨M.rb, 3, none⟩ = some (.slice (some ⟨b, o, none⟩) R.safe.length cw) by assumption)
      have q0 := hcw _ _ (show wd.cell? ⟨b, o + i * 2, none⟩ = some (.string p.1) by assumption)
      have n0 := (blk_cells hnew4).1 0
      have n1 := (blk_cells hnew4).1 1
      have HbsD := Lib.hid (HbsD.out.keep hcw)
      have Hbd := Lib.hid (Hbd.out.trans (hb4.mono Hbd.out.size))
      obtain ⟨nb, hnb⟩ : ∃ nb, nb = wd.heap.size := ⟨_, rfl⟩
      rw [← hnb] at n0 n1 ⊢
      clear hw4 hnew4 hnew3 hb3 hb4 hcw z0 z1 y0 y1 hnb
      refine x_last ?_
      with_reducible refine x_end ?_
      simp only [Act.put, List.setIfInBounds_toArray, List.set_cons_zero, List.set_cons_succ]
      have d2 : w4.cell? ⟨M.rb, 3, none⟩ = some (.slice (some ⟨b, o, none⟩) R.safe.length cw) := d2
      have q0 : w4.cell? ⟨b, o + i * 2, none⟩ = some (.string p.1) := q0
      have n0 : w4.cell? ⟨nb, 0, none⟩ = some (.slice Ad d.length cd) := n0
      have n1 : w4.cell? ⟨nb, 1, none⟩ = some (.int .i64 (sy : Nat)) := n1
      have hsu := slice_hiU Ad d.length cd sy (by have := HbsD.out.le; omega)
      have hbsF := HbsD.out.front sy
      have hlF : (d.take sy).length = sy := by rw [List.length_take]; omega
      obtain ⟨dF, hdF⟩ : ∃ dF, dF = d.take sy := ⟨_, rfl⟩
      rw [← hdF] at hbsF hlF Htk
      have HbsF := Lib.hid hbsF
      have HlF := Lib.hid hlF
      clear d1 q1 e2 e3 hbsF hdF hlF HbsD
      go_wp2_with fail
      obtain ⟨w5, hw5⟩ : ∃ w5, w5 = w4.drew := ⟨_, rfl⟩
      with_reducible refine g_mixx [(0, 0), (1, 0), (2, 0), (3, 0), (4, 0), (5, 0), (6, 0), (7, 0), (8, 0), (9, 0), (10, 0), (11, 0), (12, 0), (13, 0), (14, 2), (15, 0), (16, 2), (17, 3), (18, 1)] (fun w' => (w'.cell? ⟨M.rb, 3, none⟩ = some (.slice (some ⟨b, o, none⟩) R.safe.length cw) ∧ w'.cell? ⟨b, o + i * 2, none⟩ = some (.string p.1)) ∧ w'.cell? ⟨nb, 0, none⟩ = some (.slice Ad d.length cd) ∧ w'.cell? ⟨nb, 1, none⟩ = some (.int .i64 (sy : Nat))) 0 _ rfl (by kernel_rfl) (by kernel_rfl) ?_ ?_
      · exact ⟨⟨d2, q0⟩, n0, n1⟩
      intro OPS HD
      simp only [mixX, nthO, consX]
      rw [← hw5]
      have d2 : w5.cell? ⟨M.rb, 3, none⟩ = some (.slice (some ⟨b, o, none⟩) R.safe.length cw) := by rw [hw5]; exact d2
      have q0 : w5.cell? ⟨b, o + i * 2, none⟩ = some (.string p.1) := by rw [hw5]; exact q0
      have n0 : w5.cell? ⟨nb, 0, none⟩ = some (.slice Ad d.length cd) := by rw [hw5]; exact n0
      have n1 : w5.cell? ⟨nb, 1, none⟩ = some (.int .i64 (sy : Nat)) := by rw [hw5]; exact n1
      have HbsF5 : Hid (Bs w5 Ad cd dF) := Lib.hid (by rw [hw5]; exact HbsF.out.keep fun _ _ h => h)
      have Hb5 : Hid (Below wr.heap.size wr w5) := Lib.hid (by rw [hw5]; exact ⟨Hbd.out.os, Hbd.out.tape, Hbd.out.output, Hbd.out.size, Hbd.out.block⟩)
      clear hw5 HbsF Hbd
      iterate 14 ((with_reducible refine x_val (v := ?_) ?_ ?_ ?_); rotate_left; (rintro _ ⟨⟨h1, h2⟩, h3, h4⟩; go_simp; first | done | rfl | (constructor <;> rfl)); exact ⟨⟨d2, q0⟩, n0, n1⟩)
      with_reducible refine x_one ?_
      have hby := rbytes_any dF Ad cd w5 (by rw [HlF.out]; omega) HbsF5.out
      rw [HlF.out] at hby
      refine l_call ?_ (hby.mono ?_)
      · go_simp
      rintro e w6 ⟨dv, rfl, hrow6, hb6⟩
      rw [HlF.out] at hrow6
      obtain ⟨A6, c6, hdv⟩ := own_formT hrow6
      subst hdv
      refine ⟨_, rfl, ?_⟩
      have hcw := Cells.of_below hb6
      have d2 := hcw _ _ d2
      have q0 := hcw _ _ q0
      have n0 := hcw _ _ n0
      have n1 := hcw _ _ n1
      have hb6' := Hb5.out.trans (hb6.mono Hb5.out.size)
      have hsz := Hbl.out.size
      have hrow6' : w6.ownsRow w.heap.size 5 1 (.slice A6 sy c6) sy (u8s dF) := own_base hrow6 (Nat.le_trans hsz Hb5.out.size)
      refine x_keep ⟨⟨d2, q0⟩, n0, n1⟩ ?_
      iterate 1 ((with_reducible refine x_val (v := ?_) ?_ ?_ ?_); rotate_left; (rintro _ ⟨⟨h1, h2⟩, h3, h4⟩; go_simp; first | done | rfl | (constructor <;> rfl)); exact ⟨⟨d2, q0⟩, n0, n1⟩)
      with_reducible refine x_one ?_
      obtain ⟨w7, hw7⟩ : ∃ w7, w7 = w6.alloc (.cells #[.string p.1, .slice A6 sy c6] 44) := ⟨_, rfl⟩
      with_reducible refine l_val (v := .slice (some ⟨w6.heap.size, 0, none⟩) 1 1) (w' := w7) ?_ ?_
      · rw [hw7]
        go_simp
      have hb67 : Below w6.heap.size w6 w7 := by rw [hw7]; exact (Below.refl _ _).alloc (Nat.le_refl _) _
      have hnew7 : w7.heap[w6.heap.size]? = some (.cells #[.string p.1, .slice A6 sy c6] 44 (0, 0)) := by rw [hw7]; exact heap_alloc_new _ _
      have hb7 := hb6'.trans (hb67.mono hb6'.size)
      have hcw := Cells.of_below hb67
      have d2 := hcw _ _ d2
      have q0 := hcw _ _ q0
      have n0 := hcw _ _ n0
      have n1 := hcw _ _ n1
      refine x_keep ⟨⟨d2, q0⟩, n0, n1⟩ ?_
      with_reducible refine x_three ?_
      have hrow7 := row_below Hrow.out hb7
      have hb07 := Hbl.out.trans (hb7.mono hsz)
      refine wpList_append_own_at _ rfl (.tmp 29) (.tmp 45) 40 rfl w.heap.size 44 iF (.agg #[.string ⟨#[]⟩, .slice none 0 0]) 2 40 Tryz.underlying40 hiF hzF hsF hbF rfl (by omega) (.slice Ao i co) i cs.flatten ?_ hrow7 ⟨w6.heap.size, 0, none⟩ 1 1 [.string p.1, .slice A6 sy c6] ?_ rfl (fun j v hv => World.news_of_block hnew7 j v hv) one_file (by unfold maxLen; omega) (by omega) hb07.size ?_
      · simp [Act.eval, Act.put]
      · simp [Act.eval, Act.put]
      intro v8 w8 h8 hg8 _ hat8
      have hby7 : Bytes8 wr w7 := Bytes8.of_below hb7
      have hby8 : Bytes8 w7 w8 := Bytes8.of_grown hg8 hrow7
      obtain ⟨A8, c8, hv8⟩ := own_formT h8
      have hb08 := hb07.grown hg8 hb07.size fun k hk => (own_blk hrow7 k hk).1
      have Hfin : Hid (RFlRel w L v8 (.int .i64 ((i : Int) + 1)) w8) := Lib.hid ⟨i + 1, cs ++ [[.string p.1, .slice A6 sy c6]], by omega, rfl, by
        rw [Htk.out]
        refine (Hcs.out.mono fun _ _ h => h.keep (hby7.trans hby8)).append (((show CFr w6 w.heap.size [.string p.1, .slice A6 sy c6] (p.1, dF) from ⟨A6, c6, ?_, ?_⟩).keep (Bytes8.of_below hb67)).keep hby8)
        · simp only
          rw [HlF.out]
        · simp only
          rw [HlF.out]
          exact hrow6', by
        rw [List.flatten_append, List.flatten_singleton]
        exact h8, hb08⟩
      rw [hv8] at Hfin ⊢
      clear h8 hg8 hat8 hv8 hby7 hby8 hb08 hrow7 hb07 hnew7 hb7 hb67 hw7 hrow6 hrow6' hb6 hb6' hcw d2 q0 n0 n1 hby
      refine x_last ?_
      iterate 1 ((with_reducible refine x_any (v := ?_) ?_ ?_); rotate_left; (rintro _; go_simp; first | done | rfl | (constructor <;> rfl)))
      with_reducible refine x_end ?_
      simp only [Act.put, List.setIfInBounds_toArray, List.set_cons_zero, List.set_cons_succ]
      go_wp2_with fail
      go_roundw
      case rel => exact Hfin.out
      case measure => simp [intOf]; omega
    · have hiL : i = L.length := by omega
      have hlI : ¬ (i : Int) < R.safe.length := by omega
      have Hfin : Hid (P (.returned (.slice Ao R.safe.length co)) wr) := Lib.hid (by
        rw [HP.out]
        have h1 := Hcs.out
        have h2 := Hrow.out
        rw [hiL] at h1 h2
        rw [← hil]
        exact RFlRel.done h1 h2 Hbl.out)
      clear Hcs Hrow Hbl
      go_wp2_with fail
      exact Hfin.out
end Go.Proofs.YtaolddgnannojaaGreatDoor
