/-
  Durable.
-/
import Derived.Test.YtaolddgnannojaaGreatDoorG18
namespace Go.Proofs.YtaolddgnannojaaGreatDoor
open Go.RowKit Go.Maps

attribute [local go_sem] lt1 lt2 lt3 lt4 lt5 lt6

theorem slice_hiU (A : Option Addr) (n c l : Nat) (h : l ≤ c) (w : World) : (Instr.slice 29 (.slice A n c) none (some (.int .i64 (l : Int))) none).run Tryz.prog w = .ok (.slice A l c) w := by
  have e : Tryz.prog.elem 29 = 5 := by kernel_rfl
  have ht : Tryz.prog.underlying 29 = some (.slice (Tryz.prog.elem 29)) := by rw [e]; exact Tryz.underlying29
  obtain ⟨i0, hi0, hz0, hz1, hz2⟩ := info_parts infoU8
  rw [run_slice_h (w := w) (ht := ht) (kh := .i64) (h0 := by omega) (h2 := by omega), e]
  simp [sizeOf, typeInfo, hi0, hz1, sliced]
  intro _
  cases A with
  | none => rfl
  | some a => simp [Addr.add]
theorem Bs.front {w : World} {A : Option Addr} {c : Nat} {d : List UInt8} (h : Bs w A c d) (m : Nat) : Bs w A c (d.take m) := by
  have hl : (d.take m).length ≤ d.length := by rw [List.length_take]; omega
  have hle := h.le
  refine ⟨by simp [u8s], fun hA => ?_, by omega, h.big, fun hn => ?_⟩
  · have := h.nil hA
    omega
  · obtain ⟨b, o, hA, hc⟩ := h.cells (by omega)
    refine ⟨b, o, hA, fun j hj => ?_⟩
    rw [hc j (by omega), u8s_at (by omega), u8s_at (by omega)]
    rw [List.length_take] at hj
    simp [List.getD_eq_getElem?_getD, show j < m by omega]
theorem durL_at (S : FsSt) {k : Nat} (hk : k < (keysOf S.dur).length) : S.durL.getD k noFl = ((keysOf S.dur).getD k ⟨#[]⟩, durNo S.files (nget S.dur ((keysOf S.dur).getD k ⟨#[]⟩))) := by
  unfold FsSt.durL
  rw [List.getD_eq_getElem?_getD, List.getElem?_map, List.getElem?_eq_getElem hk, List.getD_eq_getElem?_getD, List.getElem?_eq_getElem hk]
  rfl
theorem durL_len (S : FsSt) : S.durL.length = (keysOf S.dur).length := by unfold FsSt.durL; simp
theorem idx_dur {S : FsSt} {k i : Nat} (h : S.idx k = some i) : durNo S.files k = (S.fileD i).2.d.take (S.fileD i).2.sy := by
  have := S.idx_num k
  rw [h] at this
  unfold durNo
  rw [← this]
  rfl
set_option maxHeartbeats 8000000 in
set_option maxRecDepth 10000 in
theorem durable_any (w : World) (M : FsMem) (S : FsSt) (K : Nat) (h : FsAt w M S) (hg : FsGood K S) (hK : K ≤ 1048576) :
    Calls Tryz.prog 16 #[.pointer (some ⟨M.fb, 0, none⟩)] w (FilesPost w S.durL) := by
  obtain ⟨P, hP⟩ : ∃ P, P = FilesPost w S.durL := ⟨_, rfl⟩
  rw [← hP]
  have HP := Lib.hid hP
  have H := Lib.hid h
  obtain ⟨iF, hiF, hzF, hsF, hbF⟩ := info_parts infoFile
  have HG := Lib.hid hg
  have c4 : w.cell? ⟨M.fb, 4, none⟩ = some (.map (some M.dm)) := (h.cell 4 _ rfl).1
  have HD := Lib.hid h.dur
  have hszD := hg.inv.dur.size
  clear hP h hg
  go_enter Tryz.func16, Tryz.ntmps16
  go_wp2_with fail
  refine (callsIn_wide.1 (Tryz.maps_Keys_64 (some M.dm) w)).mono ?_
  rintro e w2 ⟨rfl, rfl⟩
  go_wp2_with fail
  refine (callsIn_wide.1 (Tryz.slices_Sorted_keys_63_64 M.dm (Maps.size S.dur) S.dur (plainElem Tryz.prog 3) w HD.out (by unfold maxLen; omega) (by omega))).mono ?_
  rintro e w1 ⟨v, ss, rfl, hS, hrow, _, hb'⟩
  have hb : Below w.heap.size w w1 := ((Below.refl _ w).alloc (Nat.le_refl _) _).trans (hb'.mono (by simp))
  have hlen : ss.length = (keysOf S.dur).length := by
    rw [hS.length_eq, strKeys_len HG.out.dd, keysOf_len HG.out.dd]
  have henc : (ss.mergeSort (fun x y => decide (x ≤ y))).map Go.Proofs.encStr = txs (keysOf S.dur) := by
    have : ss.mergeSort leB = (strKeys S.dur).mergeSort leB := mergeSort_of_perm hS
    unfold keysOf
    rw [← enc_txs, ← this]
  rw [henc, hlen] at hrow
  have hrow := own_base (base' := w.heap.size) hrow (by simp)
  obtain ⟨An, cn, hv⟩ := own_formT hrow
  subst hv
  have hLl := durL_len S
  have hDl : (keysOf S.dur).length ≤ K := by rw [keysOf_len HG.out.dd]; exact HG.out.inv.dur.size
  obtain ⟨L, hL⟩ : ∃ L, L = S.durL := ⟨_, rfl⟩
  rw [← hL] at hLl HP
  have hat : ∀ k, k < (keysOf S.dur).length → L.getD k noFl = ((keysOf S.dur).getD k ⟨#[]⟩, durNo S.files (nget S.dur ((keysOf S.dur).getD k ⟨#[]⟩))) := fun k hk => by rw [hL]; exact durL_at S hk
  have hmem : ∀ k, k < (keysOf S.dur).length → nget S.dur ((keysOf S.dur).getD k ⟨#[]⟩) ≠ 0 := fun k hk => (mem_keysOf HG.out.dd).1 (by rw [List.getD_eq_getElem?_getD, List.getElem?_eq_getElem hk]; exact List.getElem_mem hk)
  clear hL hlen henc hS hb' HD c4
  obtain ⟨D, hD⟩ : ∃ D, D = keysOf S.dur := ⟨_, rfl⟩
  rw [← hD] at hLl hDl hat hmem hrow ⊢
  clear hD
  have Hat := Lib.hid hat
  have Hmem := Lib.hid hmem
  have HLl := Lib.hid hLl
  have Hrel0 : Hid (FilesRel w D (.slice An D.length cn) L (.slice none 0 0) (.int .i64 0) w1) := Lib.hid ⟨0, [], by omega, rfl, trivial, World.ownsRow_nil _ _ _ _, hb, hrow⟩
  clear hat hmem hLl hrow hb
  go_wp2_with fail
  go_loopw [3, 14] (fun ov iv wr => FilesRel w D (.slice An D.length cn) L ov iv wr) (fun _ iv _ => D.length - (intOf iv).toNat)
  case atStart => exact Hrel0.out
  case round =>
    clear Hrel0
    obtain ⟨i, cs, hi, rfl, hcs, hrow, hbl, hnrow⟩ := hrel
    obtain ⟨Ao, co, hov⟩ := own_formT hrow
    subst hov
    have hir : (0 : Int) ≤ i := by omega
    have hil := HLl.out
    have Hcs := Lib.hid hcs
    have Hrow := Lib.hid hrow
    have Hbl := Lib.hid hbl
    have Hnrow := Lib.hid hnrow
    clear hcs hrow hbl hnrow
    by_cases hlt : i < D.length
    · have hlI : (i : Int) < D.length := by omega
      obtain ⟨A2, c2, e2, hA0, hA1, _, _⟩ := own_form Hnrow.out
      simp only [Value.slice.injEq, true_and] at e2
      obtain ⟨rfl, rfl⟩ := e2
      obtain ⟨g, hA⟩ : ∃ g, An = some ⟨g, 0, none⟩ := by
        cases An with
        | none => have := (hA0 rfl).1; omega
        | some a => obtain ⟨g, rfl⟩ := hA1 a rfl; exact ⟨g, rfl⟩
      subst hA
      have cn1 := own_cell Hnrow.out (txs_at hlt)
      have hat := Hat.out i hlt
      have hnz := Hmem.out i hlt
      have htk := take_getD (show i < L.length by omega)
      rw [hat] at htk
      obtain ⟨s, hs⟩ : ∃ s, s = D.getD i ⟨#[]⟩ := ⟨_, rfl⟩
      rw [← hs] at cn1 hnz htk
      have hss := HG.out.dd.short hnz
      obtain ⟨j, hof⟩ := HG.out.inv.dur.has s hnz
      rw [idx_dur hof] at htk
      have Htk := Lib.hid htk
      have hb1 := H.out.below Hbl.out
      have H1 := Lib.hid hb1
      have hnk : nget S.dur s ≤ 9223372036854775807 := by have := HG.out.inv.dur.most s; omega
      have k1 := (show FsAt wr.drew M S from hb1.drewN 1).dur_run s (by unfold maxLen; omega)
      have k2 := (show FsAt wr.drew M S from hb1.drewN 1).file_run (nget S.dur s) hnk
      rw [hof] at k2
      have c1 : wr.drew.cell? ⟨M.fb, 1, none⟩ = some (.map (some M.fm)) := (hb1.cell 1 _ rfl).1
      have c4 : wr.drew.cell? ⟨M.fb, 4, none⟩ = some (.map (some M.dm)) := (hb1.cell 4 _ rfl).1
      obtain ⟨gf, hgf⟩ : ∃ gf, gf = (M.fl.getD j (0, undef)).1 := ⟨_, rfl⟩
      have hpt : M.ptr (some j) = .pointer (some ⟨gf, 0, none⟩) := by rw [hgf]; rfl
      rw [hpt] at k2
      have hjl := S.idx_lt hof
      have hfile := hb1.fileAt hjl
      obtain ⟨Af, cf, hfv, hbs⟩ := data_bs hfile.2
      have hf0 := hfile.1
      rw [hfv, ← hgf] at hf0
      change wr.heap[gf]? = some (.cells #[.slice Af (S.fileD j).2.d.length cf, .int .i64 ((S.fileD j).2.sy : Nat)] _ _) at hf0
      change Bs wr Af cf (S.fileD j).2.d at hbs
      have hsyj := HG.out.inv.sy (S.fileD j) (by rw [FsSt.fileD, List.getD_eq_getElem?_getD, List.getElem?_eq_getElem hjl]; exact List.getElem_mem hjl)
      generalize nget S.dur s = no at *
      clear hat hs htk hA0 hA1 hpt hfile hfv hgf hb1
      obtain ⟨d, hd⟩ : ∃ d, d = (S.fileD j).2.d := ⟨_, rfl⟩
      obtain ⟨sy, hsy⟩ : ∃ sy, sy = (S.fileD j).2.sy := ⟨_, rfl⟩
      rw [← hd, ← hsy] at hsyj Htk
      rw [← hd] at hbs
      rw [← hd, ← hsy] at hf0
      clear hd hsy hof
      have hcap := hbs.le
      have m0 : wr.drew.drew.cell? ⟨gf, 0, none⟩ = some (.slice Af d.length cf) := (blk_cells hf0).1 0
      have m1 : wr.drew.drew.cell? ⟨gf, 1, none⟩ = some (.int .i64 (sy : Nat)) := (blk_cells hf0).1 1
      have hcut := slice_hiU Af d.length cf sy (by omega)
      have hfl := hbs.front sy
      have htl : (d.take sy).length = sy := by rw [List.length_take]; omega
      have Hbs := Lib.hid (show Bs wr.drew.drew Af cf (d.take sy) from hfl.keep fun _ _ h => h)
      have Htl := Lib.hid htl
      clear hbs hfl htl hf0
      go_wp2_with fail
      with_reducible refine g_mix [(0, none), (1, none), (2, none), (3, none), (4, none), (5, none), (6, none), (7, none), (8, none), (9, none), (10, none), (11, none)] (fun w' => (w'.cell? ⟨M.fb, 1, none⟩ = some (.map (some M.fm)) ∧ w'.cell? ⟨M.fb, 4, none⟩ = some (.map (some M.dm))) ∧ (Instr.lookup 46 (.map (some M.dm)) (.string s) false).run Tryz.prog w' = .ok (.int .i64 (no : Nat)) w' ∧ (Instr.lookup 45 (.map (some M.fm)) (.int .i64 (no : Nat)) false).run Tryz.prog w' = .ok (.pointer (some ⟨gf, 0, none⟩)) w') (by kernel_rfl) (by kernel_rfl) ?_
      intro OPS
      simp only [mixOf, nthO, consO]
      iterate 12 ((with_reducible refine m_val (v := ?_) ?_ ?_ ?_); rotate_left; (rintro _ ⟨⟨h1, h2⟩, h3, h4⟩; go_simp; first | done | rfl | (constructor <;> rfl)); exact ⟨⟨c1, c4⟩, k1, k2⟩)
      with_reducible refine m_end ?_
      simp only [Act.put, List.setIfInBounds_toArray, List.set_cons_zero, List.set_cons_succ]
      clear c1 c4 k1 k2 cn1 OPS
      go_wp2_with fail
      with_reducible refine g_mixx [(0, 0), (1, 0), (2, 0), (3, 0), (4, 0), (5, 0), (6, 0), (7, 0), (8, 0), (9, 0), (10, 0), (11, 2), (12, 0), (13, 2), (14, 3), (15, 1)] (fun w' => w'.cell? ⟨gf, 0, none⟩ = some (.slice Af d.length cf) ∧ w'.cell? ⟨gf, 1, none⟩ = some (.int .i64 (sy : Nat))) 0 _ rfl (by kernel_rfl) (by kernel_rfl) ?_ ?_
      · exact ⟨m0, m1⟩
      intro OPS HDD
      simp only [mixX, nthO, consX]
      iterate 11 ((with_reducible refine x_val (v := ?_) ?_ ?_ ?_); rotate_left; (rintro _ ⟨h1, h2⟩; (try simp only [hcut]); go_simp; first | done | rfl | (constructor <;> rfl)); exact ⟨m0, m1⟩)
      with_reducible refine x_one ?_
      refine l_call ?_ ((fresh_at (d.take sy) Af sy cf wr.drew.drew Htl.out.symm (by rw [Htl.out]; omega) Hbs.out).mono ?_)
      · go_simp
      rintro e w3 ⟨g3, rfl, hg3, hgs3, hb3⟩
      rw [Htl.out]
      have hb3' : Below wr.heap.size wr w3 := ⟨hb3.os, hb3.tape, hb3.output, hb3.size, hb3.block⟩
      have hc3 := Cells.of_below hb3'
      have n0 : w3.cell? ⟨gf, 0, none⟩ = some (.slice Af d.length cf) := hc3 _ _ m0
      have n1 : w3.cell? ⟨gf, 1, none⟩ = some (.int .i64 (sy : Nat)) := hc3 _ _ m1
      have hsz := Hbl.out.size
      have hrow3 := row_below Hrow.out hb3'
      have hnrow3 := row_below Hnrow.out hb3'
      have hb03 := Hbl.out.trans (hb3'.mono hsz)
      have hcs3 : All2 (CFm w3 w.heap.size) cs (L.take i) := Hcs.out.mono fun _ _ h => h.keep (Bytes8.of_below hb3')
      have hgs3' : w.heap.size ≤ g3 := Nat.le_trans hsz hgs3
      have Hrow3 := Lib.hid hrow3
      have Hnrow3 := Lib.hid hnrow3
      have Hb03 := Lib.hid hb03
      have Hcs3 := Lib.hid hcs3
      have Hg3 := Lib.hid (And.intro hg3 hgs3')
      clear hg3 hgs3 hb3 hb3' hc3 hrow3 hnrow3 hb03 hcs3 hgs3' Hcs Hrow Hnrow Hbl Hbs m0 m1 hsz
      refine ⟨_, rfl, ?_⟩
      refine x_keep ⟨n0, n1⟩ ?_
      iterate 1 ((with_reducible refine x_val (v := ?_) ?_ ?_ ?_); rotate_left; (rintro _ ⟨h1, h2⟩; go_simp; first | done | rfl | (constructor <;> rfl)); exact ⟨n0, n1⟩)
      with_reducible refine x_one ?_
      iterate 1 (with_reducible refine l_val (v := ?_) (w' := ?_) ?_ ?_; rotate_left 2; (go_simp; first | done | rfl | (constructor <;> rfl)))
      refine x_keep ⟨Cells.alloc _ _ _ _ n0, Cells.alloc _ _ _ _ n1⟩ ?_
      with_reducible refine x_three ?_
      refine wpList_append_own_at _ rfl (.tmp 29) (.tmp 42) 40 rfl w.heap.size 44 iF (.agg #[.string ⟨#[]⟩, .slice none 0 0]) 2 40 Tryz.underlying40 hiF hzF hsF hbF rfl (by omega) (.slice Ao i co) i cs.flatten ?_ (World.ownsRow.alloc Hrow3.out _) ⟨w3.heap.size, 0, none⟩ 1 1 [.string s, .slice (some ⟨g3, 0, none⟩) sy sy] ?_ rfl (fun j v hv => World.news_of_block (w := w3.alloc _) (heap_alloc_new w3 _) j v hv) one_file (by unfold maxLen; omega) (by omega) (by have := Hb03.out.size; simp; omega) ?_
      · simp [Act.eval, Act.put]
      · simp [Act.eval, Act.put]
      intro v7 w7 h7 hg7 _ hat7
      have hg8 : w3.grownBy w7 (Value.slice Ao i co).ownBlock := (World.grownBy_alloc w3 _ _).andThen hg7 (fun j hj => .inr hj)
      obtain ⟨A7, c7, hv7⟩ := own_formT h7
      have Hfin : Hid (FilesRel w D (.slice (some ⟨g, 0, none⟩) D.length cn) L v7 (.int .i64 ((i : Int) + 1)) w7) := Lib.hid ⟨i + 1, cs ++ [[.string s, .slice (some ⟨g3, 0, none⟩) sy sy]], by omega, rfl, by
        rw [Htk.out]
        refine (Hcs3.out.mono fun _ _ h => h.keep (Bytes8.of_grown hg8 Hrow3.out)).append ((show CFm w3 w.heap.size [.string s, .slice (some ⟨g3, 0, none⟩) sy sy] (s, d.take sy) from ⟨g3, ?_, Hg3.out.2, ?_, Hg3.out.1⟩).keep (Bytes8.of_grown hg8 Hrow3.out))
        · show _ = [Value.string s, .slice _ (d.take sy).length (d.take sy).length]
          rw [Htl.out]
        · show (d.take sy).length ≤ _
          rw [Htl.out]
          omega, by
        rw [List.flatten_append, List.flatten_singleton]
        exact h7, Hb03.out.grown hg8 Hb03.out.size fun k hk => (own_blk Hrow3.out k hk).1, row_kept Hnrow3.out (Fr.of_grown hg8) fun b hb hh => by
          have h9 := own_blk Hnrow3.out b hb
          simp at hh
          have h10 := own_blk Hrow3.out b hh
          obtain ⟨_, c9, h9⟩ := h9
          obtain ⟨_, c10, h10⟩ := h10
          rw [h9] at h10
          simp at h10⟩
      rw [hv7] at Hfin ⊢
      clear h7 hg7 hg8 hat7 hv7 n0 n1 Hrow3 Hnrow3 Hb03 Hcs3 Hg3 hcut
      refine x_last ?_
      iterate 1 ((with_reducible refine x_any (v := ?_) ?_ ?_); rotate_left; (rintro _; go_simp; first | done | rfl | (constructor <;> rfl)))
      with_reducible refine x_end ?_
      simp only [Act.put, List.setIfInBounds_toArray, List.set_cons_zero, List.set_cons_succ]
      go_wp2_with fail
      go_roundw
      case rel => exact Hfin.out
      case measure => simp [intOf]; omega
    · have hlI : ¬ (i : Int) < D.length := by omega
      obtain rfl : i = D.length := by omega
      have Hfin : Hid (P (.returned (.slice Ao D.length co)) wr) := Lib.hid (by
        rw [HP.out]
        refine ⟨_, rfl, ⟨cs, ?_, ?_⟩, Hbl.out⟩
        · have h9 := Hcs.out
          rw [List.take_of_length_le (by omega)] at h9
          exact h9
        · rw [HLl.out]
          exact Hrow.out)
      clear Hcs Hrow Hbl Hnrow
      go_wp2_with fail
      exact Hfin.out
end Go.Proofs.YtaolddgnannojaaGreatDoor
