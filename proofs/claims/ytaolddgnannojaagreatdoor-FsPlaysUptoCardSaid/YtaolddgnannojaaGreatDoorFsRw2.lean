/-
  The reference: Write.
-/
import Derived.Test.YtaolddgnannojaaGreatDoorG33
namespace Go.Proofs.YtaolddgnannojaaGreatDoor
open Go.RowKit Go.Maps

attribute [local go_sem] lt1 lt2 lt3 lt4 lt5 lt6

set_option maxHeartbeats 8000000 in
set_option maxRecDepth 100000 in
theorem rwrite_any (w : World) (M : RMem) (R : RSt) (h : RAt w M R) (hl : RLim R) (hin : ∀ p ∈ R.now, p.2 < R.nodes.length) (hz : R.size ≤ 1099511627776) (hrm : R.room ≤ 67108864) (hd : ∀ i, (R.nodes.getD i noNd).d.length ≤ 1048576) (s : ByteArray) (hs : s.size ≤ 1048576)
    (b : List UInt8) (A : Option Addr) (c : Nat) (hb : Bs w A c b) (hbo : 0 < b.length → ∀ a, A = some a → a.block ∉ M.own) (hbl : b.length ≤ 1048576) :
    Calls Tryz.prog 31 #[.pointer (some ⟨M.rb, 0, none⟩), .string s, .slice A b.length c] w (ROut w M (R.write s b)) := by
  obtain ⟨P, hP⟩ : ∃ P, P = ROut w M (R.write s b) := ⟨_, rfl⟩
  rw [← hP]
  have HP := Lib.hid hP
  have H := Lib.hid h
  have HL := Lib.hid hl
  have HB := Lib.hid hb
  have HBo := Lib.hid hbo
  have Hin := Lib.hid hin
  have Hnd := Lib.hid hd
  have c7 : w.cell? ⟨M.rb, 7, none⟩ = some (.bool R.out) := h.cell 7 _ rfl
  clear hP h hl hb hin hbo hd
  by_cases ho : R.out = true
  · have Hend : Hid (P (.returned (.int .i64 5)) w) := Lib.hid (by
      rw [HP.out]
      unfold RSt.write
      rw [if_pos ho]
      exact ⟨rfl, M, H.out, RGr.refl _ _⟩)
    rw [ho] at c7
    go_enter Tryz.func31, Tryz.ntmps31
    go_wp2_with fail
    exact Hend.out
  have hof : R.out = false := by simpa using ho
  rw [hof] at c7
  go_enter Tryz.func31, Tryz.ntmps31
  go_wp2_with fail
  refine (rvalid_any w s hs).mono ?_
  rintro e w1 ⟨rfl, hb1⟩
  have H1 := Lib.hid (H.out.below hb1)
  have B1 := Lib.hid hb1
  clear hb1 c7 H
  by_cases hv : validF (toL s) = true
  case neg =>
    have hvf : validF (toL s) = false := by simpa using hv
    have Hend : Hid (P (.returned (.int .i64 1)) w1) := Lib.hid (by
      rw [HP.out]
      unfold RSt.write
      rw [if_neg ho, if_neg hv]
      exact ⟨rfl, M, H1.out, RGr.of_below B1.out⟩)
    rw [hvf]
    clear hv hvf
    go_wp2_with fail
    exact Hend.out
  rw [hv]
  have HV := Lib.hid hv
  clear hv
  obtain ⟨Aw, cw, hwv, hat⟩ := H1.out.now.rows
  have c2 : w1.cell? ⟨M.rb, 2, none⟩ = some (.slice Aw R.now.length cw) := by rw [← hwv]; exact H1.out.cell 2 _ rfl
  have Hat := Lib.hid hat
  have hnl := HL.out.now
  clear hat hwv
  go_wp2_with fail
  refine (at_any w1 Aw cw R.now s Hat.out).mono ?_
  rintro e w2 ⟨rfl, n2, hw2⟩
  have H2 : Hid (RAt w2 M R) := Lib.hid (by rw [hw2]; exact H1.out.drewN n2)
  have Hat2 : Hid (NAt w2 Aw cw R.now) := Lib.hid (by rw [hw2]; exact Hat.out.keep fun _ _ h => h)
  have B2 := Lib.hid (show Below w.heap.size w w2 by rw [hw2]; exact ⟨B1.out.os, B1.out.tape, B1.out.output, B1.out.size, B1.out.block⟩)
  have c2 : w2.cell? ⟨M.rb, 2, none⟩ = some (.slice Aw R.now.length cw) := by rw [hw2]; exact c2
  have c1 : w2.cell? ⟨M.rb, 1, none⟩ = some M.nv := H2.out.cell 1 _ rfl
  clear hw2 H1 Hat B1
  cases hr : rat R.now s with
  | none =>
    simp only [atInt]
    obtain ⟨w3, hw3⟩ : ∃ w3, w3 = w2 := ⟨_, rfl⟩
    rw [← hw3] at H2 B2 ⊢
    have H3 := H2
    have B3 := B2
    clear hw3 H2 B2 c1 c2 Hat2
    go_wp2_with fail
    obtain ⟨q1, hq1⟩ : ∃ q1 : Bool, q1 = decide ((R.room : Int) - ((R.size : Int) - 0) < b.length) := ⟨_, rfl⟩
    obtain ⟨q2, hq2⟩ : ∃ q2 : Bool, q2 = decide (4000 < R.now.length + 1) := ⟨_, rfl⟩
    have hfull : R.full s b.length = (q1 || q2) := by
      rw [hq1, hq2]
      unfold RSt.full
      rw [old_none hr]
      rfl
    have Hfull := Lib.hid hfull
    have c0 : w3.cell? ⟨M.rb, 0, none⟩ = some (.int .i64 (R.room : Nat)) := H3.out.cell 0 _ rfl
    have hsz : (0 : Int) ≤ R.size := by omega
    have HQ1 := Lib.hid hq1
    have HQ2 := Lib.hid hq2
    clear hfull hr hq1 hq2
    with_reducible refine g_mixx [(0, 0), (1, 0), (2, 0), (3, 0), (4, 0), (5, 0), (6, 0), (8, 0), (7, 2), (9, 0), (10, 0), (11, 0), (12, 0), (13, 0), (14, 0), (15, 0)] (fun w' => w'.cell? ⟨M.rb, 0, none⟩ = some (.int .i64 (R.room : Nat))) 12 (some 59) rfl (by kernel_rfl) (by kernel_rfl) ?_ ?_
    · exact c0
    intro OPS HD
    simp only [mixX, nthO, consX]
    iterate 8 ((with_reducible refine x_val (v := ?_) ?_ ?_ ?_); rotate_left; (rintro _ h1; go_simp; first | done | rfl | (constructor <;> rfl)); exact c0)
    with_reducible refine x_one ?_
    refine l_call ?_ ((rsize_any w3.drew M R (H3.out.drewN 1) Hin.out hz HL.out.now).mono ?_)
    · go_simp
    rintro e w4 ⟨rfl, n4, hw4⟩
    refine ⟨_, rfl, ?_⟩
    have H4 : Hid (RAt w4 M R) := Lib.hid (by rw [hw4]; exact (H3.out.drewN 1).drewN n4)
    have B4 := Lib.hid (show Below w.heap.size w w4 by rw [hw4]; exact ⟨B3.out.os, B3.out.tape, B3.out.output, B3.out.size, B3.out.block⟩)
    have c0 : w4.cell? ⟨M.rb, 0, none⟩ = some (.int .i64 (R.room : Nat)) := by rw [hw4]; exact c0
    clear hw4 H3 B3
    refine x_keep c0 ?_
    have r1 : IntKind.i64.wrap ((R.size : Int)) = (R.size : Int) := by rw [IntKind.wrap_i64]; omega
    have r2 : IntKind.i64.wrap ((R.room : Int) - R.size) = (R.room : Int) - R.size := by rw [IntKind.wrap_i64]; omega
    cases q1
    · have hI : ¬ ((R.room : Int) - (R.size : Int) < b.length) := by have := of_decide_eq_false HQ1.out.symm; omega
      iterate 4 ((with_reducible refine x_val (v := ?_) ?_ ?_ ?_); rotate_left; (rintro _ h1; go_simp; first | done | rfl | (constructor <;> rfl)); exact c0)
      cases q2
      · have hJ : ¬ (4000 : Int) < (R.now.length : Int) + 1 := by have := of_decide_eq_false HQ2.out.symm; omega
        iterate 2 ((with_reducible refine x_valg (v := ?_) HD ?_ ?_ ?_ ?_); rotate_left; go_simp; (rintro _ h1; go_simp; first | done | rfl | (constructor <;> rfl)); exact c0)
        iterate 1 ((with_reducible refine x_val (v := ?_) ?_ ?_ ?_); rotate_left; (rintro _ h1; go_simp; first | done | rfl | (constructor <;> rfl)); exact c0)
        with_reducible refine x_end ?_
        simp only [Act.put, List.setIfInBounds_toArray, List.set_cons_zero, List.set_cons_succ]
        clear hI hJ r1 r2 HQ1 HQ2 c0
        go_wp2_with fail
        refine (fails_any w4 M R H4.out hof HL.out.armed (by have := HL.out.done; omega)).mono ?_
        rintro e w5 ⟨rfl, M5, h5, g5⟩
        by_cases ha : R.armed = 1
        · rw [if_pos ha] at h5
          rw [decide_eq_true ha]
          have Hend : Hid (P (.returned (.int .i64 5)) w5) := Lib.hid (by
            rw [HP.out]
            unfold RSt.write
            rw [if_neg ho, if_pos HV.out, if_neg (by rw [Hfull.out]; decide), if_pos ha]
            exact ⟨rfl, M5, h5, (RGr.of_below B4.out).trans g5⟩)
          clear h5 g5 ha
          go_wp2_with fail
          exact Hend.out
        rw [if_neg ha] at h5
        rw [decide_eq_false ha]
        have Hha := Lib.hid ha
        have H5 := Lib.hid h5
        have G5 := Lib.hid ((RGr.of_below (M := M) B4.out).trans g5)
        have HBs5 := Lib.hid (show Bs w5.drew A c b from ((HB.out.keep (Cells.of_below B4.out)).out g5.fr HBo.out).keep fun _ _ h => h)
        obtain ⟨An, cn5, hnv⟩ := own_formT h5.nodes
        change M5.nv = .slice An R.nodes.length cn5 at hnv
        have c1 : w5.drew.cell? ⟨M.rb, 1, none⟩ = some (.slice An R.nodes.length cn5) := by rw [← g5.rb, ← hnv]; exact (h5.drewN 1).cell 1 _ rfl
        obtain ⟨iN, hiN, hzN, hsN, hbN⟩ := info_parts infoInode
        have hnn := HL.out.nodes
        have Hdl : Hid (M5.ds.length = R.nodes.length) := Lib.hid (all2_len h5.data)
        have Hnv := Lib.hid hnv
        have Hrb5 := Lib.hid g5.rb
        clear h5 g5 hnv ha
        go_wp2_with fail
        with_reducible refine g_mixx [(0, 0), (1, 0), (2, 0), (3, 0), (4, 0), (5, 0), (6, 2), (7, 0), (8, 2), (9, 2), (10, 0), (11, 0), (12, 3)] (fun w' => w'.cell? ⟨M.rb, 1, none⟩ = some (.slice An R.nodes.length cn5)) 0 _ rfl (by kernel_rfl) (by kernel_rfl) ?_ ?_
        · exact c1
        intro OPS HD
        simp only [mixX, nthO, consX]
        iterate 6 ((with_reducible refine x_val (v := ?_) ?_ ?_ ?_); rotate_left; (rintro _ h1; go_simp; first | done | rfl | (constructor <;> rfl)); exact c1)
        with_reducible refine x_one ?_
        refine l_call ?_ ((rbytes_any b A c w5.drew hbl HBs5.out).mono ?_)
        · go_simp
        rintro e w6 ⟨dv, rfl, hrow6, hb6⟩
        obtain ⟨Ab, cb, hdv⟩ := own_formT hrow6
        subst hdv
        refine ⟨_, rfl, ?_⟩
        have Hrow6 := Lib.hid hrow6
        have hb6' : Below w5.heap.size w5 w6 := (show Below w5.heap.size w5 w5.drew from ⟨rfl, rfl, rfl, Nat.le_refl _, fun _ _ => rfl⟩).trans hb6
        have c1 := (Cells.of_below hb6) _ _ c1
        have Hb6 := Lib.hid hb6'
        clear hrow6 hb6 hb6'
        refine x_keep c1 ?_
        iterate 1 ((with_reducible refine x_val (v := ?_) ?_ ?_ ?_); rotate_left; (rintro _ h1; go_simp; first | done | rfl | (constructor <;> rfl)); exact c1)
        with_reducible refine x_one ?_
        obtain ⟨w7, hw7⟩ : ∃ w7, w7 = w6.alloc (.cells #[.slice Ab b.length cb, .int .i64 0] 96) := ⟨_, rfl⟩
        with_reducible refine l_val (v := .slice (some ⟨w6.heap.size, 0, none⟩) 1 1) (w' := w7) ?_ ?_
        · rw [hw7]
          go_simp
        have hb67 : Below w6.heap.size w6 w7 := by rw [hw7]; exact (Below.refl _ _).alloc (Nat.le_refl _) _
        have hb7 := Hb6.out.trans (hb67.mono Hb6.out.size)
        have hnew7 : w7.heap[w6.heap.size]? = some (.cells #[.slice Ab b.length cb, .int .i64 0] 96 (0, 0)) := by rw [hw7]; exact heap_alloc_new _ _
        have c1 := (Cells.of_below hb67) _ _ c1
        have hrow7 : w7.ownsRow w5.drew.heap.size 5 1 (.slice Ab b.length cb) b.length (u8s b) := own_keep Hrow6.out fun g _ hg => (hb67.block g (lt_of_heap hg)).trans hg
        have hown5 := H5.out.nodes
        rw [Hnv.out] at hown5
        have hown7 : w7.ownsRow 0 96 2 (.slice An R.nodes.length cn5) R.nodes.length (ndCells M5.ds R.nodes) := own_keep hown5 fun g _ hg => (hb7.block g (lt_of_heap hg)).trans hg
        have Hb7 := Lib.hid hb7
        have Hrow7 := Lib.hid hrow7
        clear hw7 hb67 hb7 hrow7 Hrow6 Hb6 hown5
        refine x_keep c1 ?_
        with_reducible refine x_one ?_
        refine wpList_append_own_at _ rfl (.tmp 69) (.tmp 73) 50 rfl 0 96 iN (.agg #[.slice none 0 0, .int .i64 0]) 2 32 Tryz.underlying50 hiN hzN hsN hbN rfl (by omega) (.slice An R.nodes.length cn5) R.nodes.length (ndCells M5.ds R.nodes) ?_ hown7 ⟨w6.heap.size, 0, none⟩ 1 1 [.slice Ab b.length cb, .int .i64 0] ?_ rfl (fun j v hv => World.news_of_block hnew7 j v hv) one_nd (by unfold maxLen; omega) (by omega) (Nat.zero_le _) ?_
        · simp [Act.eval, Act.put]
        · simp [Act.eval, Act.put]
        intro v8 w8 h8 hg8 _ hat8
        have hrow8 : w8.ownsRow 0 96 2 v8 (R.nodes ++ [(⟨b, 0⟩ : FileC)]).length (ndCells (M5.ds ++ [.slice Ab b.length cb]) (R.nodes ++ [⟨b, 0⟩])) := by
          rw [zip_snoc Hdl.out, List.length_append]
          exact h8
        obtain ⟨A8, c8, hv8⟩ := own_formT h8
        have hn8 : ∀ k, v8.ownBlock = some k → M5.nv.ownBlock = some k ∨ w7.heap.size ≤ k := fun k hk => by
          rcases hat8 with e | e
          · rw [e, ← Hnv.out] at hk
            exact .inl hk
          · rw [e] at hk
            simp at hk
            exact .inr (by omega)
        rw [← Hnv.out] at hg8
        obtain ⟨hr9, gr9⟩ := H5.out.setNodes Hb7.out hg8 (data_row Hrow7.out) (c := ⟨b, 0⟩) (fun k hk => (own_blk Hrow7.out k hk).1) hrow8 hn8
        have hrbn : ∀ k, M5.nv.ownBlock = some k → k ≠ M5.rb := fun k hk e => by
          refine (List.nodup_cons.1 H5.out.nodup).1 ?_
          rw [← e]
          simp only [List.mem_append, Option.mem_toList]
          exact .inl hk
        have hblk : w8.heap[M5.rb]? = some (.cells (rCells M5 R.did) 54 (0, 0)) := (hg8.block _ (Nat.lt_of_lt_of_le (lt_of_heap H5.out.blk) Hb7.out.size) fun e => hrbn _ e.symm rfl).trans (H5.out.below Hb7.out).blk
        rw [Hrb5.out] at hblk
        have f1 : w8.frozen? ⟨M.rb, 1, none⟩ = false := (blk_cells hblk).2.1 1
        have c1 : w8.cell? ⟨M.rb, 1, none⟩ = some (.slice An R.nodes.length cn5) := by rw [← Hnv.out]; exact (blk_cells hblk).1 1
        rw [Hrb5.out] at hr9 gr9
        rw [hv8] at hr9 gr9 ⊢
        have H9 := Lib.hid hr9
        have G9 := Lib.hid gr9
        clear h8 hg8 hat8 hrow8 hn8 hr9 gr9 hrbn hblk hown7 hnew7 hv8
        refine x_keep c1 ?_
        iterate 2 ((with_reducible refine x_val (v := ?_) ?_ ?_ ?_); rotate_left; (rintro _ h1; go_simp; first | done | rfl | (constructor <;> rfl)); exact c1)
        with_reducible refine x_three ?_
        with_reducible refine l_skip (w' := w8.setCell ⟨M.rb, 1, none⟩ (.slice A8 (R.nodes.length + 1) c8)) ?_ ?_
        · go_simp
        refine x_last ?_
        with_reducible refine x_end ?_
        simp only [Act.put, List.setIfInBounds_toArray, List.set_cons_zero, List.set_cons_succ]
        generalize w8.setCell ⟨M.rb, 1, none⟩ (.slice A8 (R.nodes.length + 1) c8) = w9 at *
        clear c1 f1
        have c1 : w9.cell? ⟨M.rb, 1, none⟩ = some (.slice A8 (R.nodes.length + 1) c8) := H9.out.cell 1 _ rfl
        go_wp2_with fail
        have c1 : w9.drew.cell? ⟨M.rb, 1, none⟩ = some (.slice A8 (R.nodes.length + 1) c8) := c1
        have hc := change_any w9.drew _ _ (H9.out.drewN 1) ⟨dirOf s, ⟨#[]⟩, s, R.nodes.length⟩ (.inr (by have := valid_pos HV.out; simp only; omega)) HL.out.now HL.out.pend
        unfold chCell at hc
        simp only at hc
        have Hc := Lib.hid hc
        have Hfin : Hid (∀ e w11, RPost w9.drew { rb := M.rb, nv := .slice A8 (R.nodes.length + 1) c8, wv := M5.wv, sv := M5.sv, pv := M5.pv, ds := M5.ds ++ [.slice Ab b.length cb] } (({ R.did with nodes := R.nodes ++ [⟨b, 0⟩] } : RSt).change ⟨dirOf s, ⟨#[]⟩, s, R.nodes.length⟩) (.tuple #[]) e w11 → e = .returned (.tuple #[]) ∧ P (.returned (.int .i64 0)) w11) := Lib.hid fun e w11 ⟨he, M3, h3, g3⟩ => ⟨he, by
          rw [HP.out]
          unfold RSt.write
          rw [if_neg ho, if_pos HV.out, if_neg (by rw [Hfull.out]; decide), if_neg Hha.out]
          exact ⟨rfl, M3, h3, (G5.out.trans G9.out).trans ((show RGr _ w9 _ w9.drew from RGr.of_below ⟨rfl, rfl, rfl, Nat.le_refl _, fun _ _ => rfl⟩).trans g3)⟩⟩
        clear hc
        with_reducible refine g_mixx [(0, 0), (1, 0), (3, 0), (4, 0), (5, 0), (6, 0), (7, 0), (8, 0), (9, 0), (2, 2), (10, 0), (11, 3)] (fun w' => w'.cell? ⟨M.rb, 1, none⟩ = some (.slice A8 (R.nodes.length + 1) c8)) 0 _ rfl (by kernel_rfl) (by kernel_rfl) ?_ ?_
        · exact c1
        intro OPS HD
        simp only [mixX, nthO, consX]
        iterate 9 ((with_reducible refine x_val (v := ?_) ?_ ?_ ?_); rotate_left; (rintro _ h1; go_simp; first | done | rfl | (constructor <;> rfl)); exact c1)
        with_reducible refine x_one ?_
        refine l_call ?_ ((rdir_any w9.drew s hs).mono ?_)
        · go_simp
        rintro e w10 ⟨rfl, rfl⟩
        refine ⟨_, rfl, ?_⟩
        refine x_keep c1 ?_
        iterate 1 ((with_reducible refine x_val (v := ?_) ?_ ?_ ?_); rotate_left; (rintro _ h1; go_simp; first | done | rfl | (constructor <;> rfl)); exact c1)
        with_reducible refine x_three ?_
        have r9 : IntKind.i64.wrap (R.nodes.length : Int) = R.nodes.length := by rw [IntKind.wrap_i64]; omega
        refine l_call ?_ (Hc.out.mono ?_)
        · go_simp
        intro e w11 hp
        obtain ⟨rfl, hq⟩ := Hfin.out e w11 hp
        have Hq := Lib.hid hq
        clear hp hq
        refine ⟨_, rfl, ?_⟩
        refine x_last ?_
        with_reducible refine x_end ?_
        simp only [Act.put, List.setIfInBounds_toArray, List.set_cons_zero, List.set_cons_succ]
        clear c1
        go_wp2_with fail
        exact Hq.out
      · have hJ : (4000 : Int) < (R.now.length : Int) + 1 := by have := of_decide_eq_true HQ2.out.symm; omega
        iterate 2 ((with_reducible refine x_valg (v := ?_) HD ?_ ?_ ?_ ?_); rotate_left; go_simp; (rintro _ h1; go_simp; first | done | rfl | (constructor <;> rfl)); exact c0)
        iterate 1 ((with_reducible refine x_val (v := ?_) ?_ ?_ ?_); rotate_left; (rintro _ h1; go_simp; first | done | rfl | (constructor <;> rfl)); exact c0)
        with_reducible refine x_end ?_
        simp only [Act.put, List.setIfInBounds_toArray, List.set_cons_zero, List.set_cons_succ]
        have Hend : Hid (P (.returned (.int .i64 4)) w4) := Lib.hid (by
          rw [HP.out]
          unfold RSt.write
          rw [if_neg ho, if_pos HV.out, if_pos (by rw [Hfull.out]; rfl)]
          exact ⟨rfl, M, H4.out, RGr.of_below B4.out⟩)
        go_wp2_with fail
        exact Hend.out
    · have hI : (R.room : Int) - (R.size : Int) < b.length := by have := of_decide_eq_true HQ1.out.symm; omega
      iterate 4 ((with_reducible refine x_val (v := ?_) ?_ ?_ ?_); rotate_left; (rintro _ h1; go_simp; first | done | rfl | (constructor <;> rfl)); exact c0)
      iterate 2 (with_reducible refine x_outg (c := true) HD (by go_simp) rfl c0 ?_)
      iterate 1 ((with_reducible refine x_val (v := ?_) ?_ ?_ ?_); rotate_left; (rintro _ h1; go_simp; first | done | rfl | (constructor <;> rfl)); exact c0)
      with_reducible refine x_end ?_
      simp only [Act.put, List.setIfInBounds_toArray, List.set_cons_zero, List.set_cons_succ]
      have Hend : Hid (P (.returned (.int .i64 4)) w4) := Lib.hid (by
        rw [HP.out]
        unfold RSt.write
        rw [if_neg ho, if_pos HV.out, if_pos (by rw [Hfull.out]; rfl)]
        exact ⟨rfl, M, H4.out, RGr.of_below B4.out⟩)
      go_wp2_with fail
      exact Hend.out
  | some i =>
    have hil := Hin.out _ (rat_mem hr)
    simp only at hil
    have hi0 : (0 : Int) ≤ i := by omega
    simp only [atInt]
    obtain ⟨g, cn, Ad, cd, e1, _, e2, _, hbs⟩ := H2.out.node_at hil
    rw [e1] at c1
    obtain ⟨d, hdd⟩ : ∃ d, d = (R.nodes.getD i noNd).d := ⟨_, rfl⟩
    rw [← hdd] at e2 hbs
    have hdl := Hnd.out i
    rw [← hdd] at hdl
    have Hdd := Lib.hid hdd
    clear e1 hdd hbs
    go_wp2_with fail
    with_reducible refine g_mixx [(0, 0), (1, 0), (2, 0), (3, 0), (4, 0), (5, 0), (6, 0), (7, 0), (8, 0), (9, 2), (10, 0), (11, 0), (12, 0), (13, 0), (14, 0)] (fun w' => w'.cell? ⟨M.rb, 1, none⟩ = some (.slice (some ⟨g, 0, none⟩) R.nodes.length cn) ∧ w'.cell? ⟨M.rb, 2, none⟩ = some (.slice Aw R.now.length cw) ∧ w'.cell? ⟨g, i * 2, none⟩ = some (.slice Ad d.length cd)) 0 _ rfl (by kernel_rfl) (by kernel_rfl) ?_ ?_
    · exact ⟨c1, c2, e2⟩
    intro OPS HD
    simp only [mixX, nthO, consX]
    iterate 9 ((with_reducible refine x_val (v := ?_) ?_ ?_ ?_); rotate_left; (rintro _ ⟨h1, h2, h3⟩; go_simp; first | done | rfl | (constructor <;> rfl)); exact ⟨c1, c2, e2⟩)
    with_reducible refine x_one ?_
    refine l_call ?_ ((at_any w2.drew Aw cw R.now s (Hat2.out.keep fun _ _ h => h)).mono ?_)
    · go_simp
    rintro e w3 ⟨rfl, n3, hw3⟩
    rw [hr]
    simp only [atInt]
    refine ⟨_, rfl, ?_⟩
    have H3 : Hid (RAt w3 M R) := Lib.hid (by rw [hw3]; exact (H2.out.drewN 1).drewN n3)
    have B3 := Lib.hid (show Below w.heap.size w w3 by rw [hw3]; exact ⟨B2.out.os, B2.out.tape, B2.out.output, B2.out.size, B2.out.block⟩)
    have c1 : w3.cell? ⟨M.rb, 1, none⟩ = some (.slice (some ⟨g, 0, none⟩) R.nodes.length cn) := by rw [hw3]; exact c1
    have c2 : w3.cell? ⟨M.rb, 2, none⟩ = some (.slice Aw R.now.length cw) := by rw [hw3]; exact c2
    have e2 : w3.cell? ⟨g, i * 2, none⟩ = some (.slice Ad d.length cd) := by rw [hw3]; exact e2
    clear hw3 H2 B2 Hat2
    refine x_keep ⟨c1, c2, e2⟩ ?_
    iterate 5 ((with_reducible refine x_val (v := ?_) ?_ ?_ ?_); rotate_left; (rintro _ ⟨h1, h2, h3⟩; go_simp; first | done | rfl | (constructor <;> rfl)); exact ⟨c1, c2, e2⟩)
    with_reducible refine x_end ?_
    simp only [Act.put, List.setIfInBounds_toArray, List.set_cons_zero, List.set_cons_succ]
    go_wp2_with fail
    clear c1 c2 e2 hi0
    obtain ⟨q1, hq1⟩ : ∃ q1 : Bool, q1 = decide ((R.room : Int) - ((R.size : Int) - (d.length : Int)) < b.length) := ⟨_, rfl⟩
    obtain ⟨q2, hq2⟩ : ∃ q2 : Bool, q2 = decide (4000 < R.now.length) := ⟨_, rfl⟩
    have hfull : R.full s b.length = (q1 || q2) := by
      rw [hq1, hq2]
      unfold RSt.full
      rw [old_some hr]
      have e9 : R.len i = d.length := by unfold RSt.len; rw [← Hdd.out]
      simp only [e9, Nat.add_zero]
    have Hfull := Lib.hid hfull
    have c0 : w3.cell? ⟨M.rb, 0, none⟩ = some (.int .i64 (R.room : Nat)) := H3.out.cell 0 _ rfl
    have hsz : (0 : Int) ≤ R.size := by omega
    have HQ1 := Lib.hid hq1
    have HQ2 := Lib.hid hq2
    clear hfull hr hq1 hq2
    with_reducible refine g_mixx [(0, 0), (1, 0), (2, 0), (3, 0), (4, 0), (5, 0), (6, 0), (8, 0), (7, 2), (9, 0), (10, 0), (11, 0), (12, 0), (13, 0), (14, 0), (15, 0)] (fun w' => w'.cell? ⟨M.rb, 0, none⟩ = some (.int .i64 (R.room : Nat))) 12 (some 59) rfl (by kernel_rfl) (by kernel_rfl) ?_ ?_
    · exact c0
    intro OPS HD
    simp only [mixX, nthO, consX]
    iterate 8 ((with_reducible refine x_val (v := ?_) ?_ ?_ ?_); rotate_left; (rintro _ h1; go_simp; first | done | rfl | (constructor <;> rfl)); exact c0)
    with_reducible refine x_one ?_
    refine l_call ?_ ((rsize_any w3.drew M R (H3.out.drewN 1) Hin.out hz HL.out.now).mono ?_)
    · go_simp
    rintro e w4 ⟨rfl, n4, hw4⟩
    refine ⟨_, rfl, ?_⟩
    have H4 : Hid (RAt w4 M R) := Lib.hid (by rw [hw4]; exact (H3.out.drewN 1).drewN n4)
    have B4 := Lib.hid (show Below w.heap.size w w4 by rw [hw4]; exact ⟨B3.out.os, B3.out.tape, B3.out.output, B3.out.size, B3.out.block⟩)
    have c0 : w4.cell? ⟨M.rb, 0, none⟩ = some (.int .i64 (R.room : Nat)) := by rw [hw4]; exact c0
    clear hw4 H3 B3
    refine x_keep c0 ?_
    have r1 : IntKind.i64.wrap ((R.size : Int) - d.length) = (R.size : Int) - d.length := by rw [IntKind.wrap_i64]; omega
    have r2 : IntKind.i64.wrap ((R.room : Int) - ((R.size : Int) - d.length)) = (R.room : Int) - ((R.size : Int) - d.length) := by rw [IntKind.wrap_i64]; omega
    cases q1
    · have hI : ¬ ((R.room : Int) - ((R.size : Int) - d.length) < b.length) := by have := of_decide_eq_false HQ1.out.symm; omega
      iterate 4 ((with_reducible refine x_val (v := ?_) ?_ ?_ ?_); rotate_left; (rintro _ h1; go_simp; first | done | rfl | (constructor <;> rfl)); exact c0)
      cases q2
      · have hJ : ¬ (4000 : Int) < (R.now.length : Int) := by have := of_decide_eq_false HQ2.out.symm; omega
        iterate 2 ((with_reducible refine x_valg (v := ?_) HD ?_ ?_ ?_ ?_); rotate_left; go_simp; (rintro _ h1; go_simp; first | done | rfl | (constructor <;> rfl)); exact c0)
        iterate 1 ((with_reducible refine x_val (v := ?_) ?_ ?_ ?_); rotate_left; (rintro _ h1; go_simp; first | done | rfl | (constructor <;> rfl)); exact c0)
        with_reducible refine x_end ?_
        simp only [Act.put, List.setIfInBounds_toArray, List.set_cons_zero, List.set_cons_succ]
        clear hI hJ r1 r2 HQ1 HQ2 c0
        go_wp2_with fail
        refine (fails_any w4 M R H4.out hof HL.out.armed (by have := HL.out.done; omega)).mono ?_
        rintro e w5 ⟨rfl, M5, h5, g5⟩
        by_cases ha : R.armed = 1
        · rw [if_pos ha] at h5
          rw [decide_eq_true ha]
          have Hend : Hid (P (.returned (.int .i64 5)) w5) := Lib.hid (by
            rw [HP.out]
            unfold RSt.write
            rw [if_neg ho, if_pos HV.out, if_neg (by rw [Hfull.out]; decide), if_pos ha]
            exact ⟨rfl, M5, h5, (RGr.of_below B4.out).trans g5⟩)
          clear h5 g5 ha
          go_wp2_with fail
          exact Hend.out
        rw [if_neg ha] at h5
        rw [decide_eq_false ha]
        have Hha := Lib.hid ha
        have H5 := Lib.hid h5
        have G5 := Lib.hid ((RGr.of_below (M := M) B4.out).trans g5)
        have HBs5 := Lib.hid (show Bs w5.drew A c b from ((HB.out.keep (Cells.of_below B4.out)).out g5.fr HBo.out).keep fun _ _ h => h)
        obtain ⟨An, cn5, hnv⟩ := own_formT h5.nodes
        change M5.nv = .slice An R.nodes.length cn5 at hnv
        have c1 : w5.drew.cell? ⟨M.rb, 1, none⟩ = some (.slice An R.nodes.length cn5) := by rw [← g5.rb, ← hnv]; exact (h5.drewN 1).cell 1 _ rfl
        obtain ⟨iN, hiN, hzN, hsN, hbN⟩ := info_parts infoInode
        have hnn := HL.out.nodes
        have Hdl : Hid (M5.ds.length = R.nodes.length) := Lib.hid (all2_len h5.data)
        have Hnv := Lib.hid hnv
        have Hrb5 := Lib.hid g5.rb
        clear h5 g5 hnv ha
        go_wp2_with fail
        with_reducible refine g_mixx [(0, 0), (1, 0), (2, 0), (3, 0), (4, 0), (5, 0), (6, 2), (7, 0), (8, 2), (9, 2), (10, 0), (11, 0), (12, 3)] (fun w' => w'.cell? ⟨M.rb, 1, none⟩ = some (.slice An R.nodes.length cn5)) 0 _ rfl (by kernel_rfl) (by kernel_rfl) ?_ ?_
        · exact c1
        intro OPS HD
        simp only [mixX, nthO, consX]
        iterate 6 ((with_reducible refine x_val (v := ?_) ?_ ?_ ?_); rotate_left; (rintro _ h1; go_simp; first | done | rfl | (constructor <;> rfl)); exact c1)
        with_reducible refine x_one ?_
        refine l_call ?_ ((rbytes_any b A c w5.drew hbl HBs5.out).mono ?_)
        · go_simp
        rintro e w6 ⟨dv, rfl, hrow6, hb6⟩
        obtain ⟨Ab, cb, hdv⟩ := own_formT hrow6
        subst hdv
        refine ⟨_, rfl, ?_⟩
        have Hrow6 := Lib.hid hrow6
        have hb6' : Below w5.heap.size w5 w6 := (show Below w5.heap.size w5 w5.drew from ⟨rfl, rfl, rfl, Nat.le_refl _, fun _ _ => rfl⟩).trans hb6
        have c1 := (Cells.of_below hb6) _ _ c1
        have Hb6 := Lib.hid hb6'
        clear hrow6 hb6 hb6'
        refine x_keep c1 ?_
        iterate 1 ((with_reducible refine x_val (v := ?_) ?_ ?_ ?_); rotate_left; (rintro _ h1; go_simp; first | done | rfl | (constructor <;> rfl)); exact c1)
        with_reducible refine x_one ?_
        obtain ⟨w7, hw7⟩ : ∃ w7, w7 = w6.alloc (.cells #[.slice Ab b.length cb, .int .i64 0] 96) := ⟨_, rfl⟩
        with_reducible refine l_val (v := .slice (some ⟨w6.heap.size, 0, none⟩) 1 1) (w' := w7) ?_ ?_
        · rw [hw7]
          go_simp
        have hb67 : Below w6.heap.size w6 w7 := by rw [hw7]; exact (Below.refl _ _).alloc (Nat.le_refl _) _
        have hb7 := Hb6.out.trans (hb67.mono Hb6.out.size)
        have hnew7 : w7.heap[w6.heap.size]? = some (.cells #[.slice Ab b.length cb, .int .i64 0] 96 (0, 0)) := by rw [hw7]; exact heap_alloc_new _ _
        have c1 := (Cells.of_below hb67) _ _ c1
        have hrow7 : w7.ownsRow w5.drew.heap.size 5 1 (.slice Ab b.length cb) b.length (u8s b) := own_keep Hrow6.out fun g _ hg => (hb67.block g (lt_of_heap hg)).trans hg
        have hown5 := H5.out.nodes
        rw [Hnv.out] at hown5
        have hown7 : w7.ownsRow 0 96 2 (.slice An R.nodes.length cn5) R.nodes.length (ndCells M5.ds R.nodes) := own_keep hown5 fun g _ hg => (hb7.block g (lt_of_heap hg)).trans hg
        have Hb7 := Lib.hid hb7
        have Hrow7 := Lib.hid hrow7
        clear hw7 hb67 hb7 hrow7 Hrow6 Hb6 hown5
        refine x_keep c1 ?_
        with_reducible refine x_one ?_
        refine wpList_append_own_at _ rfl (.tmp 69) (.tmp 73) 50 rfl 0 96 iN (.agg #[.slice none 0 0, .int .i64 0]) 2 32 Tryz.underlying50 hiN hzN hsN hbN rfl (by omega) (.slice An R.nodes.length cn5) R.nodes.length (ndCells M5.ds R.nodes) ?_ hown7 ⟨w6.heap.size, 0, none⟩ 1 1 [.slice Ab b.length cb, .int .i64 0] ?_ rfl (fun j v hv => World.news_of_block hnew7 j v hv) one_nd (by unfold maxLen; omega) (by omega) (Nat.zero_le _) ?_
        · simp [Act.eval, Act.put]
        · simp [Act.eval, Act.put]
        intro v8 w8 h8 hg8 _ hat8
        have hrow8 : w8.ownsRow 0 96 2 v8 (R.nodes ++ [(⟨b, 0⟩ : FileC)]).length (ndCells (M5.ds ++ [.slice Ab b.length cb]) (R.nodes ++ [⟨b, 0⟩])) := by
          rw [zip_snoc Hdl.out, List.length_append]
          exact h8
        obtain ⟨A8, c8, hv8⟩ := own_formT h8
        have hn8 : ∀ k, v8.ownBlock = some k → M5.nv.ownBlock = some k ∨ w7.heap.size ≤ k := fun k hk => by
          rcases hat8 with e | e
          · rw [e, ← Hnv.out] at hk
            exact .inl hk
          · rw [e] at hk
            simp at hk
            exact .inr (by omega)
        rw [← Hnv.out] at hg8
        obtain ⟨hr9, gr9⟩ := H5.out.setNodes Hb7.out hg8 (data_row Hrow7.out) (c := ⟨b, 0⟩) (fun k hk => (own_blk Hrow7.out k hk).1) hrow8 hn8
        have hrbn : ∀ k, M5.nv.ownBlock = some k → k ≠ M5.rb := fun k hk e => by
          refine (List.nodup_cons.1 H5.out.nodup).1 ?_
          rw [← e]
          simp only [List.mem_append, Option.mem_toList]
          exact .inl hk
        have hblk : w8.heap[M5.rb]? = some (.cells (rCells M5 R.did) 54 (0, 0)) := (hg8.block _ (Nat.lt_of_lt_of_le (lt_of_heap H5.out.blk) Hb7.out.size) fun e => hrbn _ e.symm rfl).trans (H5.out.below Hb7.out).blk
        rw [Hrb5.out] at hblk
        have f1 : w8.frozen? ⟨M.rb, 1, none⟩ = false := (blk_cells hblk).2.1 1
        have c1 : w8.cell? ⟨M.rb, 1, none⟩ = some (.slice An R.nodes.length cn5) := by rw [← Hnv.out]; exact (blk_cells hblk).1 1
        rw [Hrb5.out] at hr9 gr9
        rw [hv8] at hr9 gr9 ⊢
        have H9 := Lib.hid hr9
        have G9 := Lib.hid gr9
        clear h8 hg8 hat8 hrow8 hn8 hr9 gr9 hrbn hblk hown7 hnew7 hv8
        refine x_keep c1 ?_
        iterate 2 ((with_reducible refine x_val (v := ?_) ?_ ?_ ?_); rotate_left; (rintro _ h1; go_simp; first | done | rfl | (constructor <;> rfl)); exact c1)
        with_reducible refine x_three ?_
        with_reducible refine l_skip (w' := w8.setCell ⟨M.rb, 1, none⟩ (.slice A8 (R.nodes.length + 1) c8)) ?_ ?_
        · go_simp
        refine x_last ?_
        with_reducible refine x_end ?_
        simp only [Act.put, List.setIfInBounds_toArray, List.set_cons_zero, List.set_cons_succ]
        generalize w8.setCell ⟨M.rb, 1, none⟩ (.slice A8 (R.nodes.length + 1) c8) = w9 at *
        clear c1 f1
        have c1 : w9.cell? ⟨M.rb, 1, none⟩ = some (.slice A8 (R.nodes.length + 1) c8) := H9.out.cell 1 _ rfl
        go_wp2_with fail
        have c1 : w9.drew.cell? ⟨M.rb, 1, none⟩ = some (.slice A8 (R.nodes.length + 1) c8) := c1
        have hc := change_any w9.drew _ _ (H9.out.drewN 1) ⟨dirOf s, ⟨#[]⟩, s, R.nodes.length⟩ (.inr (by have := valid_pos HV.out; simp only; omega)) HL.out.now HL.out.pend
        unfold chCell at hc
        simp only at hc
        have Hc := Lib.hid hc
        have Hfin : Hid (∀ e w11, RPost w9.drew { rb := M.rb, nv := .slice A8 (R.nodes.length + 1) c8, wv := M5.wv, sv := M5.sv, pv := M5.pv, ds := M5.ds ++ [.slice Ab b.length cb] } (({ R.did with nodes := R.nodes ++ [⟨b, 0⟩] } : RSt).change ⟨dirOf s, ⟨#[]⟩, s, R.nodes.length⟩) (.tuple #[]) e w11 → e = .returned (.tuple #[]) ∧ P (.returned (.int .i64 0)) w11) := Lib.hid fun e w11 ⟨he, M3, h3, g3⟩ => ⟨he, by
          rw [HP.out]
          unfold RSt.write
          rw [if_neg ho, if_pos HV.out, if_neg (by rw [Hfull.out]; decide), if_neg Hha.out]
          exact ⟨rfl, M3, h3, (G5.out.trans G9.out).trans ((show RGr _ w9 _ w9.drew from RGr.of_below ⟨rfl, rfl, rfl, Nat.le_refl _, fun _ _ => rfl⟩).trans g3)⟩⟩
        clear hc
        with_reducible refine g_mixx [(0, 0), (1, 0), (3, 0), (4, 0), (5, 0), (6, 0), (7, 0), (8, 0), (9, 0), (2, 2), (10, 0), (11, 3)] (fun w' => w'.cell? ⟨M.rb, 1, none⟩ = some (.slice A8 (R.nodes.length + 1) c8)) 0 _ rfl (by kernel_rfl) (by kernel_rfl) ?_ ?_
        · exact c1
        intro OPS HD
        simp only [mixX, nthO, consX]
        iterate 9 ((with_reducible refine x_val (v := ?_) ?_ ?_ ?_); rotate_left; (rintro _ h1; go_simp; first | done | rfl | (constructor <;> rfl)); exact c1)
        with_reducible refine x_one ?_
        refine l_call ?_ ((rdir_any w9.drew s hs).mono ?_)
        · go_simp
        rintro e w10 ⟨rfl, rfl⟩
        refine ⟨_, rfl, ?_⟩
        refine x_keep c1 ?_
        iterate 1 ((with_reducible refine x_val (v := ?_) ?_ ?_ ?_); rotate_left; (rintro _ h1; go_simp; first | done | rfl | (constructor <;> rfl)); exact c1)
        with_reducible refine x_three ?_
        have r9 : IntKind.i64.wrap (R.nodes.length : Int) = R.nodes.length := by rw [IntKind.wrap_i64]; omega
        refine l_call ?_ (Hc.out.mono ?_)
        · go_simp
        intro e w11 hp
        obtain ⟨rfl, hq⟩ := Hfin.out e w11 hp
        have Hq := Lib.hid hq
        clear hp hq
        refine ⟨_, rfl, ?_⟩
        refine x_last ?_
        with_reducible refine x_end ?_
        simp only [Act.put, List.setIfInBounds_toArray, List.set_cons_zero, List.set_cons_succ]
        clear c1
        go_wp2_with fail
        exact Hq.out
      · have hJ : (4000 : Int) < (R.now.length : Int) := by have := of_decide_eq_true HQ2.out.symm; omega
        iterate 2 ((with_reducible refine x_valg (v := ?_) HD ?_ ?_ ?_ ?_); rotate_left; go_simp; (rintro _ h1; go_simp; first | done | rfl | (constructor <;> rfl)); exact c0)
        iterate 1 ((with_reducible refine x_val (v := ?_) ?_ ?_ ?_); rotate_left; (rintro _ h1; go_simp; first | done | rfl | (constructor <;> rfl)); exact c0)
        with_reducible refine x_end ?_
        simp only [Act.put, List.setIfInBounds_toArray, List.set_cons_zero, List.set_cons_succ]
        have Hend : Hid (P (.returned (.int .i64 4)) w4) := Lib.hid (by
          rw [HP.out]
          unfold RSt.write
          rw [if_neg ho, if_pos HV.out, if_pos (by rw [Hfull.out]; rfl)]
          exact ⟨rfl, M, H4.out, RGr.of_below B4.out⟩)
        go_wp2_with fail
        exact Hend.out
    · have hI : (R.room : Int) - ((R.size : Int) - d.length) < b.length := by have := of_decide_eq_true HQ1.out.symm; omega
      iterate 4 ((with_reducible refine x_val (v := ?_) ?_ ?_ ?_); rotate_left; (rintro _ h1; go_simp; first | done | rfl | (constructor <;> rfl)); exact c0)
      iterate 2 (with_reducible refine x_outg (c := true) HD (by go_simp) rfl c0 ?_)
      iterate 1 ((with_reducible refine x_val (v := ?_) ?_ ?_ ?_); rotate_left; (rintro _ h1; go_simp; first | done | rfl | (constructor <;> rfl)); exact c0)
      with_reducible refine x_end ?_
      simp only [Act.put, List.setIfInBounds_toArray, List.set_cons_zero, List.set_cons_succ]
      have Hend : Hid (P (.returned (.int .i64 4)) w4) := Lib.hid (by
        rw [HP.out]
        unfold RSt.write
        rw [if_neg ho, if_pos HV.out, if_pos (by rw [Hfull.out]; rfl)]
        exact ⟨rfl, M, H4.out, RGr.of_below B4.out⟩)
      go_wp2_with fail
      exact Hend.out
end Go.Proofs.YtaolddgnannojaaGreatDoor
