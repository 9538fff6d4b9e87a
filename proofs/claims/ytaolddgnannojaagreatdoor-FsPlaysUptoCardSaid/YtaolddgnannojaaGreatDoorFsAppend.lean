/-
  Append, Sync.
-/
import Derived.Test.YtaolddgnannojaaGreatDoorG8
import Derived.Test.YtaolddgnannojaaGreatDoorFsWrite
namespace Go.Proofs.YtaolddgnannojaaGreatDoor
open Go.RowKit Go.Maps

attribute [local go_sem] lt1 lt2 lt3 lt4 lt5 lt6

def FsSt.sync1 (S : FsSt) (i : Nat) : FsSt := { S with files := S.files.set i ((S.fileD i).1, { (S.fileD i).2 with sy := (S.fileD i).2.d.length }) }
set_option maxHeartbeats 4000000 in
set_option maxRecDepth 10000 in
theorem sync1_any (w : World) (M : FsMem) (S : FsSt) (h : FsAt w M S) (i : Nat) (hi : i < S.files.length) (bx : Nat)
    (hx : w.heap[bx]? = some (.cells #[.pointer (some ⟨(M.fl.getD i (0, undef)).1, 0, none⟩)] 55 (0, 0))) :
    Calls Tryz.prog 61 #[.pointer (some ⟨bx, 0, none⟩)] w (ChsPost w M (S.sync1 i)) := by
  have hf := h.fileAt hi
  have hml : i < M.fl.length := by rw [← h.each.length]; exact hi
  have e1 := getD_some hi (0, ⟨[], 0⟩)
  have e2 := getD_some hml (0, undef)
  change S.files[i]? = some (S.fileD i) at e1
  change FileAt w (S.fileD i) _ at hf
  unfold FsSt.sync1
  obtain ⟨⟨n, ⟨d0, sy⟩⟩, hc⟩ : ∃ X, X = S.fileD i := ⟨_, rfl⟩
  obtain ⟨⟨gf, v⟩, hfe⟩ : ∃ X, X = M.fl.getD i (0, undef) := ⟨_, rfl⟩
  rw [← hc] at e1 hf ⊢
  rw [← hfe] at e2 hf hx
  obtain ⟨Av, cv, hv⟩ := data_form hf.2
  simp only at hv
  subst hv
  have hg : w.drew.heap[gf]? = some (.cells #[.slice Av d0.length cv, .int .i64 (sy : Nat)] 58 (0, 0)) := hf.1
  have dx : w.drew.cell? ⟨bx, 0, none⟩ = some (.pointer (some ⟨gf, 0, none⟩)) := box_cell hx
  have dv : w.drew.cell? ⟨gf, 0, none⟩ = some (.slice Av d0.length cv) := (blk_cells hg).1 0
  have ds : w.drew.cell? ⟨gf, 1, none⟩ = some (.int .i64 (sy : Nat)) := (blk_cells hg).1 1
  have fs : w.drew.frozen? ⟨gf, 1, none⟩ = false := (blk_cells hg).2.1 1
  have hg2 := heap_setCell_at hg 1 (.int .i64 (d0.length : Nat))
  have hfr : Fr [gf] w (w.drew.setCell ⟨gf, 1, none⟩ (.int .i64 (d0.length : Nat))) := ((Fr.refl [gf] w).drewN 1).trans (Fr.setCell _ _ _ _ (by simp))
  have hbn : ∀ b, (Value.slice Av d0.length cv).ownBlock = some b → b ∉ [gf] := fun b hb hh => by
    obtain ⟨cur, hcu⟩ := data_blk hf.2 b hb
    rw [List.mem_singleton.1 hh] at hcu
    have h5 := hf.1
    simp only at h5
    rw [hcu] at h5
    simp at h5
  obtain ⟨h4, g4⟩ := h.refiled (c' := ⟨d0, d0.length⟩) (v' := .slice Av d0.length cv) e1 e2 (hfr.more fun k hk => by rw [List.mem_singleton.1 hk]; simp) ⟨hg2, data_kept hf.2 hfr hbn⟩ (.inl rfl)
  have Hfin : Hid (ChsPost w M { S with files := S.files.set i (n, ⟨d0, d0.length⟩) } (.returned (.tuple #[])) (w.drew.setCell ⟨gf, 1, none⟩ (.int .i64 (d0.length : Nat)))) := Lib.hid ⟨rfl, _, h4, g4⟩
  clear h4 g4 hbn hfr hg2 hg e1 e2 hf h hfe hc hx
  go_enter Tryz.func61, Tryz.ntmps61
  go_wp2_with fail
  with_reducible refine g_mix [(0, none), (1, none), (2, none), (3, none), (4, none), (5, none), (6, none), (7, none), (8, some true)] (fun w' => w'.cell? ⟨bx, 0, none⟩ = some (.pointer (some ⟨gf, 0, none⟩)) ∧ w'.cell? ⟨gf, 0, none⟩ = some (.slice Av d0.length cv)) (by kernel_rfl) (by kernel_rfl) ?_
  intro OPS
  simp only [mixOf, nthO, consO]
  iterate 8 ((with_reducible refine m_val (v := ?_) ?_ ?_ ?_); rotate_left; (rintro _ ⟨h1, h2⟩; go_simp; first | done | rfl | (constructor <;> rfl)); exact ⟨dx, dv⟩)
  with_reducible refine m_one ?_
  with_reducible refine l_skip (w' := w.drew.setCell ⟨gf, 1, none⟩ (.int .i64 (d0.length : Nat))) ?_ ?_
  · go_simp
  with_reducible refine m_last ?_
  with_reducible refine m_end ?_
  simp only [Act.put, List.setIfInBounds_toArray, List.set_cons_zero, List.set_cons_succ]
  go_wp2_with fail
  go_end0
  exact Hfin.out
theorem enter_a1 (args : Array Value) (w : World) : (callFunc 60 args).run Tryz.prog w = .ok (.enter 60 args) w := Go.MuLone.run_callFunc_enter Tryz.func60 (by kernel_rfl) rfl args w
theorem enter_s1 (args : Array Value) (w : World) : (callFunc 61 args).run Tryz.prog w = .ok (.enter 61 args) w := Go.MuLone.run_callFunc_enter Tryz.func61 (by kernel_rfl) rfl args w
def FsSt.append (S : FsSt) (name : ByteArray) (d : List UInt8) : Nat × FsSt :=
  if S.down then (5, S) else match S.of name with
    | none => (2, S)
    | some i => if S.full d.length 0 then (4, S) else (S.wrErr, S.wrote (S.tick.append1 i d))
def FsSt.sync (S : FsSt) (name : ByteArray) : Nat × FsSt :=
  if S.down then (5, S) else match S.of name with
    | none => (2, S)
    | some i => (S.wrErr, S.wrote (S.tick.sync1 i))
theorem Gr.drewN (M : FsMem) (w : World) (n : Nat) : Gr M w M (w.drewN n) := ⟨(Fr.refl _ _).drewN n, fun _ h => .inl h, rfl⟩
set_option maxHeartbeats 4000000 in
set_option maxRecDepth 10000 in
theorem fsync_any (w : World) (M : FsMem) (S : FsSt) (K : Nat) (h : FsAt w M S) (hi : FsInv K S) (hK : K ≤ 1048576) (name : ByteArray) (hn : name.size ≤ 1048576) :
    Calls Tryz.prog 14 #[.pointer (some ⟨M.fb, 0, none⟩), .string name] w (WrPost w M (S.sync name).2 (S.sync name).1) := by
  obtain ⟨P, hP⟩ : ∃ P, P = WrPost w M (S.sync name).2 (S.sync name).1 := ⟨_, rfl⟩
  rw [← hP]
  have HP := Lib.hid hP
  have H := Lib.hid h
  clear hP h
  go_enter Tryz.func14, Tryz.ntmps14
  go_wp2_with fail
  refine (of_any _ M S H.out name (by unfold maxLen; omega) (hi.name_le hK name)).mono ?_
  rintro e w1 ⟨rfl, nn, rfl⟩
  have H1 := Lib.hid (H.out.drewN nn)
  have G1 := Lib.hid (Gr.drewN M w nn)
  have hfb := H1.out.lt M.fb (by simp [FsMem.own])
  have c9 : (w.drewN nn).cell? ⟨M.fb, 9, none⟩ = some (.bool S.down) := (H1.out.cell 9 _ rfl).1
  generalize w.drewN nn = w1 at *
  have hB : Below w1.heap.size w1 (w1.alloc (.cells #[M.ptr (S.of name)] 55)) := (Below.refl _ _).alloc (Nat.le_refl _) _
  have hnew := heap_alloc_new w1 (.cells #[M.ptr (S.of name)] 55)
  have H2 := Lib.hid (H1.out.below hB)
  have G2 := Lib.hid (G1.out.trans (Gr.of_below (M := M) hB))
  have X := Lib.hid hnew
  cases hof : S.of name with
  | none =>
    rw [hof] at H2 G2
    have hpt : M.ptr none = .pointer none := rfl
    rw [hpt] at H2 G2 ⊢
    by_cases hdn : S.down = true
    · rw [hdn] at c9
      go_wp2_with fail
      show P (.returned (.int .i64 5)) _
      rw [HP.out]
      unfold FsSt.sync
      rw [if_pos hdn]
      exact ⟨rfl, M, H2.out, G2.out⟩
    · have hdn : S.down = false := by simpa using hdn
      rw [hdn] at c9
      go_wp2_with fail
      show P (.returned (.int .i64 2)) _
      rw [HP.out]
      unfold FsSt.sync
      rw [hdn, hof]
      exact ⟨rfl, M, H2.out, G2.out⟩
  | some i =>
    obtain ⟨gf, hgf⟩ : ∃ gf, gf = (M.fl.getD i (0, undef)).1 := ⟨_, rfl⟩
    have hpt : M.ptr (some i) = .pointer (some ⟨gf, 0, none⟩) := by rw [hgf]; rfl
    rw [hof, hpt] at H2 G2 X
    have Hgf := Lib.hid hgf
    clear hgf hB hnew
    rw [hpt]
    clear hpt
    by_cases hdn : S.down = true
    · rw [hdn] at c9
      go_wp2_with fail
      show P (.returned (.int .i64 5)) _
      rw [HP.out]
      unfold FsSt.sync
      rw [if_pos hdn]
      exact ⟨rfl, M, H2.out, G2.out⟩
    have hdn : S.down = false := by simpa using hdn
    rw [hdn] at c9
    go_wp2_with fail
    have X2 : Hid ((w1.alloc (.cells #[.pointer (some ⟨gf, 0, none⟩)] 55)).heap[w1.heap.size]? = some (.cells #[.pointer (some ⟨gf, 0, none⟩)] 55 (0, 0))) := X
    refine (write_of _ M S (S.tick.sync1 i) H2.out 61 #[.pointer (some ⟨w1.heap.size, 0, none⟩)] enter_s1 hi.armed (by have := hi.steps; show S.steps ≤ _; omega) (fun _ wx hx fx => sync1_any wx M S.tick hx i (S.idx_lt hof) w1.heap.size (by rw [← Hgf.out]; exact box_keptT fx X2.out boxFile))).mono ?_
    rintro e w6 ⟨rfl, M6, h6, g6⟩
    have Hfin : Hid (P (.returned (.int .i64 (S.wrErr : Nat))) w6) := Lib.hid (by
      rw [HP.out]
      unfold FsSt.sync
      rw [hdn, hof]
      exact ⟨rfl, M6, h6, G2.out.trans g6⟩)
    clear h6 g6
    go_wp2_with fail
    exact Hfin.out
set_option maxHeartbeats 4000000 in
set_option maxRecDepth 10000 in
theorem fappend_any (w : World) (M : FsMem) (S : FsSt) (K : Nat) (h : FsAt w M S) (hi : FsInv K S) (hK : K ≤ 1048576) (name : ByteArray) (hn : name.size ≤ 1048576)
    (d : List UInt8) (A : Option Addr) (c : Nat) (hb : Bs w A c d) (ho : Out M A d) (hd : d.length ≤ 1048576) :
    Calls Tryz.prog 13 #[.pointer (some ⟨M.fb, 0, none⟩), .string name, .slice A d.length c] w (WrPost w M (S.append name d).2 (S.append name d).1) := by
  obtain ⟨P, hP⟩ : ∃ P, P = WrPost w M (S.append name d).2 (S.append name d).1 := ⟨_, rfl⟩
  rw [← hP]
  have HP := Lib.hid hP
  have H := Lib.hid h
  have HB := Lib.hid hb
  clear hP h hb
  go_enter Tryz.func13, Tryz.ntmps13
  go_wp2_with fail
  have hB0 : Below w.heap.size w ((w.alloc (.cells #[.pointer (some ⟨M.fb, 0, none⟩)] 25)).alloc (.cells #[.slice A d.length c] 29)) := ((Below.refl w.heap.size w).alloc (Nat.le_refl _) _).alloc (by simp) _
  have H0 := Lib.hid (H.out.below hB0)
  have G0 := Lib.hid (Gr.of_below (M := M) hB0)
  have HB0 := Lib.hid (HB.out.keep (Cells.of_below hB0))
  have Q0 := Lib.hid ((Below.heap_alloc (w.alloc (.cells #[.pointer (some ⟨M.fb, 0, none⟩)] 25)) (.cells #[.slice A d.length c] 29) w.heap.size (by simp)).trans (heap_alloc_new w _))
  have q1 : ((w.alloc (.cells #[.pointer (some ⟨M.fb, 0, none⟩)] 25)).alloc (.cells #[.slice A d.length c] 29)).heap[w.heap.size + 1]? = some (.cells #[.slice A d.length c] 29 (0, 0)) := by
    simpa using heap_alloc_new (w.alloc (.cells #[.pointer (some ⟨M.fb, 0, none⟩)] 25)) (.cells #[.slice A d.length c] 29)
  have Q1 := Lib.hid q1
  clear hB0 q1 HB H
  generalize (w.alloc (.cells #[.pointer (some ⟨M.fb, 0, none⟩)] 25)).alloc (.cells #[.slice A d.length c] 29) = w0 at *
  generalize w.heap.size = nb at *
  refine (of_any _ M S H0.out name (by unfold maxLen; omega) (hi.name_le hK name)).mono ?_
  rintro e w1 ⟨rfl, nn, rfl⟩
  have H1 := Lib.hid (H0.out.drewN nn)
  have G1 := Lib.hid (G0.out.trans (Gr.drewN M w0 nn))
  have R0 : Hid ((w0.drewN nn).heap[nb]? = some (.cells #[.pointer (some ⟨M.fb, 0, none⟩)] 25 (0, 0))) := Q0
  have R1 : Hid ((w0.drewN nn).heap[nb + 1]? = some (.cells #[.slice A d.length c] 29 (0, 0))) := Q1
  have HB1 := Lib.hid (HB0.out.keep (Cells.drewN w0 nn))
  have hfb := H1.out.lt M.fb (by simp [FsMem.own])
  have c9 : (w0.drewN nn).cell? ⟨M.fb, 9, none⟩ = some (.bool S.down) := (H1.out.cell 9 _ rfl).1
  have c0 := box_cell R0.out
  have c1 := box_cell R1.out
  have l0 := lt_of_heap R0.out
  have l1 := lt_of_heap R1.out
  clear Q0 Q1 H0 G0 HB0
  generalize w0.drewN nn = w1 at *
  have hB : Below w1.heap.size w1 (w1.alloc (.cells #[M.ptr (S.of name)] 55)) := (Below.refl _ _).alloc (Nat.le_refl _) _
  have hnew := heap_alloc_new w1 (.cells #[M.ptr (S.of name)] 55)
  have H2 := Lib.hid (H1.out.below hB)
  have G2 := Lib.hid (G1.out.trans (Gr.of_below (M := M) hB))
  have HB2 := Lib.hid (HB1.out.keep (Cells.of_below hB))
  have S0 := Lib.hid ((hB.block _ l0).trans R0.out)
  have S1 := Lib.hid ((hB.block _ l1).trans R1.out)
  have X := Lib.hid hnew
  cases hof : S.of name with
  | none =>
    rw [hof] at H2 G2
    have hpt : M.ptr none = .pointer none := rfl
    rw [hpt] at H2 G2 ⊢
    by_cases hdn : S.down = true
    · rw [hdn] at c9
      go_wp2_with fail
      show P (.returned (.int .i64 5)) _
      rw [HP.out]
      unfold FsSt.append
      rw [if_pos hdn]
      exact ⟨rfl, M, H2.out, G2.out⟩
    · have hdn : S.down = false := by simpa using hdn
      rw [hdn] at c9
      go_wp2_with fail
      show P (.returned (.int .i64 2)) _
      rw [HP.out]
      unfold FsSt.append
      rw [hdn, hof]
      exact ⟨rfl, M, H2.out, G2.out⟩
  | some i =>
    obtain ⟨gf, hgf⟩ : ∃ gf, gf = (M.fl.getD i (0, undef)).1 := ⟨_, rfl⟩
    have hpt : M.ptr (some i) = .pointer (some ⟨gf, 0, none⟩) := by rw [hgf]; rfl
    rw [hof, hpt] at H2 G2 X HB2 S0 S1
    have Hgf := Lib.hid hgf
    clear hgf hB hnew
    rw [hpt]
    clear hpt
    by_cases hdn : S.down = true
    · rw [hdn] at c9
      go_wp2_with fail
      show P (.returned (.int .i64 5)) _
      rw [HP.out]
      unfold FsSt.append
      rw [if_pos hdn]
      exact ⟨rfl, M, H2.out, G2.out⟩
    have hdn : S.down = false := by simpa using hdn
    rw [hdn] at c9
    have hz := hi.size' hK
    go_wp2_with fail
    refine (full_any _ M S H2.out (d.length : Nat) 0 hi.quota hz.1 hz.2 (by have := hi.names.size; omega)).mono ?_
    rintro e w3 ⟨rfl, n3, rfl⟩
    have X3 : Hid (((w1.alloc (.cells #[.pointer (some ⟨gf, 0, none⟩)] 55)).drewN n3).heap[w1.heap.size]? = some (.cells #[.pointer (some ⟨gf, 0, none⟩)] 55 (0, 0))) := X
    have H3 := Lib.hid (H2.out.drewN n3)
    have G3 := Lib.hid (G2.out.trans (Gr.drewN M _ n3))
    have HB3 := Lib.hid (HB2.out.keep (Cells.drewN _ n3))
    have T0 : Hid (((w1.alloc (.cells #[.pointer (some ⟨gf, 0, none⟩)] 55)).drewN n3).heap[nb]? = some (.cells #[.pointer (some ⟨M.fb, 0, none⟩)] 25 (0, 0))) := S0
    have T1 : Hid (((w1.alloc (.cells #[.pointer (some ⟨gf, 0, none⟩)] 55)).drewN n3).heap[nb + 1]? = some (.cells #[.slice A d.length c] 29 (0, 0))) := S1
    have k0 := box_cell T0.out
    clear H1 G1 HB1 R0 R1 c0 c1 c9 H2 G2 HB2 S0 S1 X hfb l0 l1
    generalize (w1.alloc (.cells #[.pointer (some ⟨gf, 0, none⟩)] 55)).drewN n3 = w3 at *
    generalize w1.heap.size = nx at *
    by_cases hf : S.full (d.length : Nat) 0 = true
    · rw [hf]
      go_wp2_with fail
      show P (.returned (.int .i64 4)) _
      rw [HP.out]
      unfold FsSt.append
      rw [hdn, hof]
      simp only [hf]
      exact ⟨rfl, M, H3.out, G3.out⟩
    have hf : S.full (d.length : Nat) 0 = false := by simpa using hf
    rw [hf]
    go_wp2_with fail
    refine (write_of _ M S (S.tick.append1 i d) H3.out 60 #[.pointer (some ⟨nx, 0, none⟩), .pointer (some ⟨nb + 1, 0, none⟩), .pointer (some ⟨nb, 0, none⟩)] enter_a1 hi.armed (by have := hi.steps; show S.steps ≤ _; omega) (fun _ wx hx fx => append1_any wx M S.tick hx i (S.idx_lt hof) d A c nx (nb + 1) nb (by rw [← Hgf.out]; exact box_keptT fx X3.out boxFile) (box_keptT fx T1.out boxBytes) (box_keptT fx T0.out boxFS)
      (HB3.out.out fx.fr fun hn a ha hh => ho hn a ha (by rw [List.mem_singleton.1 hh]; simp [FsMem.own])) (by omega) (by have := hi.lenAt i; show S.lenAt i ≤ _; omega) hz)).mono ?_
    rintro e w6 ⟨rfl, M6, h6, g6⟩
    have Hfin : Hid (P (.returned (.int .i64 (S.wrErr : Nat))) w6) := Lib.hid (by
      rw [HP.out]
      unfold FsSt.append
      rw [hdn, hof]
      simp only [hf]
      exact ⟨rfl, M6, h6, G3.out.trans g6⟩)
    clear h6 g6
    go_wp2_with fail
    exact Hfin.out
end Go.Proofs.YtaolddgnannojaaGreatDoor
