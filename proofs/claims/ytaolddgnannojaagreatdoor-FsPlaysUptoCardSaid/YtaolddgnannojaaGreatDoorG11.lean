/-
  lose, Has; Rename, Remove: their functions.
  Rename, Remove.
-/
import Derived.Test.YtaolddgnannojaaGreatDoorFsAppend
namespace Go.Proofs.YtaolddgnannojaaGreatDoor
open Go.RowKit Go.Maps

attribute [local go_sem] lt1 lt2 lt3 lt4 lt5 lt6

def FsSt.lose (S : FsSt) (name : ByteArray) : FsSt := match S.of name with
  | none => S
  | some i => { S with size := S.size - S.lenAt i }
def LosePost (w : World) (M : FsMem) (S : FsSt) (e : Ending) (w' : World) : Prop := e = .returned (.tuple #[]) ∧ FsAt w' M S ∧ Frm [M.fb] w w'
theorem FsAt.frm_drewN {w : World} {M : FsMem} {S : FsSt} (h : FsAt w M S) (n : Nat) : Frm [M.fb] w (w.drewN n) := ⟨(Fr.refl _ _).drewN n, fun k hk _ => h.mays k (by rw [List.mem_singleton.1 hk]; simp [FsMem.own])⟩
set_option maxHeartbeats 4000000 in
set_option maxRecDepth 10000 in
theorem lose_any (w : World) (M : FsMem) (S : FsSt) (h : FsAt w M S) (name : ByteArray) (hn : name.size ≤ 1048576) (hnn : nget S.names name ≤ 9223372036854775807) (hz : -1099511627776 ≤ S.size ∧ S.size ≤ 1099511627776) (hl : ∀ i, S.lenAt i ≤ 1099511627776) :
    Calls Tryz.prog 75 #[.pointer (some ⟨M.fb, 0, none⟩), .string name] w (LosePost w M (S.lose name)) := by
  obtain ⟨P, hP⟩ : ∃ P, P = LosePost w M (S.lose name) := ⟨_, rfl⟩
  rw [← hP]
  have HP := Lib.hid hP
  have H := Lib.hid h
  clear h hP
  go_enter Tryz.func75, Tryz.ntmps75
  go_wp2_with fail
  refine (of_any _ M S H.out name (by unfold maxLen; omega) hnn).mono ?_
  rintro e w1 ⟨rfl, nn, rfl⟩
  have H1 := Lib.hid (H.out.drewN nn)
  have F1 := Lib.hid (H.out.frm_drewN nn)
  generalize w.drewN nn = w1 at *
  cases hof : S.of name with
  | none =>
    have hpt : M.ptr none = .pointer none := rfl
    rw [hpt]
    have Hfin : Hid (P (.returned (.tuple #[])) w1) := Lib.hid (by rw [HP.out]; unfold FsSt.lose; rw [hof]; exact ⟨rfl, H1.out, F1.out⟩)
    go_wp2_with fail
    go_end0
    exact Hfin.out
  | some i =>
    obtain ⟨gf, hgf⟩ : ∃ gf, gf = (M.fl.getD i (0, undef)).1 := ⟨_, rfl⟩
    have hpt : M.ptr (some i) = .pointer (some ⟨gf, 0, none⟩) := by rw [hgf]; rfl
    have Hgf := Lib.hid hgf
    clear hgf
    rw [hpt]
    clear hpt
    have hil := S.idx_lt hof
    have hfile := H1.out.fileAt hil
    obtain ⟨Af, cf, hfv⟩ := data_form hfile.2
    have hf0 := hfile.1
    rw [hfv, ← Hgf.out] at hf0
    have hlen : S.lenAt i = ((S.files.getD i (0, ⟨[], 0⟩)).2.d).length := rfl
    rw [← hlen] at hf0
    have hLK := hl i
    have m1 : w1.drew.cell? ⟨gf, 0, none⟩ = some (.slice Af (S.lenAt i) cf) := (blk_cells hf0).1 0
    have m5 : w1.drew.cell? ⟨M.fb, 5, none⟩ = some (.int .i64 S.size) := (H1.out.cell 5 _ rfl).1
    have f5 : w1.drew.frozen? ⟨M.fb, 5, none⟩ = false := (blk_cells H1.out.blk).2.1 5
    have r1 : IntKind.i64.wrap (S.size - (S.lenAt i : Nat)) = S.size - (S.lenAt i : Nat) := by rw [IntKind.wrap_i64]; omega
    obtain ⟨h7, f7⟩ := (show FsAt w1.drew M _ from H1.out.drewN 1).put (S' := { S with size := S.size - S.lenAt i }) 5 (.int .i64 (S.size - S.lenAt i)) rfl rfl rfl rfl rfl
    have Hfin : Hid (P (.returned (.tuple #[])) (w1.drew.setCell ⟨M.fb, 5, none⟩ (.int .i64 (S.size - S.lenAt i)))) := Lib.hid (by rw [HP.out]; unfold FsSt.lose; rw [hof]; exact ⟨rfl, h7, F1.out.trans ((show Frm [M.fb] w1 w1.drew from H1.out.frm_drewN 1).trans f7)⟩)
    clear hfile hfv hf0 hlen h7 f7
    generalize S.lenAt i = L at *
    go_wp2_with fail
    with_reducible refine g_mix [(0, none), (1, none), (2, none), (3, none), (4, none), (5, none), (6, none), (7, none), (8, none), (9, none), (10, none), (11, none), (12, some true)] (fun w' => w'.cell? ⟨gf, 0, none⟩ = some (.slice Af L cf) ∧ w'.cell? ⟨M.fb, 5, none⟩ = some (.int .i64 S.size)) (by kernel_rfl) (by kernel_rfl) ?_
    intro OPS
    simp only [mixOf, nthO, consO]
    iterate 12 ((with_reducible refine m_val (v := ?_) ?_ ?_ ?_); rotate_left; (rintro _ ⟨h1, h2⟩; (try simp only [r1]); go_simp; first | done | rfl | (constructor <;> rfl)); exact ⟨m1, m5⟩)
    with_reducible refine m_one ?_
    with_reducible refine l_skip (w' := w1.drew.setCell ⟨M.fb, 5, none⟩ (.int .i64 (S.size - L))) ?_ ?_
    · go_simp
    with_reducible refine m_last ?_
    with_reducible refine m_end ?_
    simp only [Act.put, List.setIfInBounds_toArray, List.set_cons_zero, List.set_cons_succ]
    go_wp2_with fail
    go_end0
    exact Hfin.out
def FsSt.has (S : FsSt) (s : ByteArray) : Bool := (S.of s).isSome
theorem has_any (w : World) (M : FsMem) (S : FsSt) (h : FsAt w M S) (s : ByteArray) (hs : s.size ≤ maxLen) (hn : nget S.names s ≤ 9223372036854775807) :
    Calls Tryz.prog 48 #[.pointer (some ⟨M.fb, 0, none⟩), .string s] w fun e w' => e = .returned (.bool (S.has s)) ∧ ∃ n, w' = w.drewN n := by
  have H := Lib.hid h
  clear h
  go_enter Tryz.func48, Tryz.ntmps48
  go_wp2_with fail
  refine (of_any _ M S H.out s hs hn).mono ?_
  rintro e w1 ⟨rfl, nn, rfl⟩
  cases hof : S.of s with
  | none =>
    have hpt : M.ptr none = .pointer none := rfl
    rw [hpt]
    go_wp2_with fail
    go_ret
    exact ⟨by unfold FsSt.has; rw [hof]; rfl, _, rfl⟩
  | some i =>
    obtain ⟨gf, hgf⟩ : ∃ gf, gf = (M.fl.getD i (0, undef)).1 := ⟨_, rfl⟩
    have hpt : M.ptr (some i) = .pointer (some ⟨gf, 0, none⟩) := by rw [hgf]; rfl
    clear hgf
    rw [hpt]
    clear hpt
    go_wp2_with fail
    go_ret
    exact ⟨by unfold FsSt.has; rw [hof]; rfl, _, rfl⟩
def FsSt.rename1 (S : FsSt) (a b : ByteArray) : FsSt := if a = b then S else (S.lose b).changes ⟨dirOf b, nget S.names a, .move a b (nget S.names a)⟩
def FsSt.remove1 (S : FsSt) (a : ByteArray) : FsSt := (S.lose a).changes ⟨dirOf a, 0, .del a⟩
theorem lose_names (S : FsSt) (a : ByteArray) : (S.lose a).names = S.names ∧ (S.lose a).pend = S.pend ∧ (S.lose a).steps = S.steps := by
  unfold FsSt.lose
  split <;> exact ⟨rfl, rfl, rfl⟩
set_option maxHeartbeats 4000000 in
set_option maxRecDepth 10000 in
theorem remove1_any (w : World) (M : FsMem) (S : FsSt) (h : FsAt w M S) (name : ByteArray) (b0 b1 : Nat)
    (h0 : w.heap[b0]? = some (.cells #[.pointer (some ⟨M.fb, 0, none⟩)] 25 (0, 0))) (h1 : w.heap[b1]? = some (.cells #[.string name] 9 (0, 0)))
    (hn : name.size ≤ 1048576) (hnn : nget S.names name ≤ 9223372036854775807) (hz : -1099511627776 ≤ S.size ∧ S.size ≤ 1099511627776) (hl : ∀ i, S.lenAt i ≤ 1099511627776) (hnm : Maps.size S.names ≤ 1099511627776) (hpl : S.pend.length ≤ 1099511627776) :
    Calls Tryz.prog 77 #[.pointer (some ⟨b0, 0, none⟩), .pointer (some ⟨b1, 0, none⟩)] w (ChsPost w M (S.remove1 name)) := by
  have k0 := box_cell h0
  have k1 := box_cell h1
  have H := Lib.hid h
  have X0 := Lib.hid h0
  have X1 := Lib.hid h1
  clear h h0 h1
  go_enter Tryz.func77, Tryz.ntmps77
  go_wp2_with fail
  refine (lose_any _ M S H.out name hn hnn hz hl).mono ?_
  rintro e w1 ⟨rfl, h1, f1⟩
  have Y0 := Lib.hid (box_keptT f1 X0.out boxFS)
  have Y1 := Lib.hid (box_keptT f1 X1.out boxStr)
  have H1 := Lib.hid h1
  have G1 := Lib.hid (Gr.own f1)
  clear h1 f1 k0 k1 X0 X1 H
  go_wp2_with fail
  have d0 : w1.drew.cell? ⟨b0, 0, none⟩ = some (.pointer (some ⟨M.fb, 0, none⟩)) := box_cell Y0.out
  have d1 : w1.drew.cell? ⟨b1, 0, none⟩ = some (.string name) := box_cell Y1.out
  with_reducible refine g_mix [(0, none), (1, none), (3, none), (2, some false), (4, some true)] (fun w' => w'.cell? ⟨b0, 0, none⟩ = some (.pointer (some ⟨M.fb, 0, none⟩)) ∧ w'.cell? ⟨b1, 0, none⟩ = some (.string name)) (by kernel_rfl) (by kernel_rfl) ?_
  intro OPS
  simp only [mixOf, nthO, consO]
  iterate 3 ((with_reducible refine m_val (v := ?_) ?_ ?_ ?_); rotate_left; (rintro _ ⟨h1, h2⟩; go_simp; first | done | rfl | (constructor <;> rfl)); exact ⟨d0, d1⟩)
  with_reducible refine m_one ?_
  refine l_call ?_ ((dir_any w1.drew name hn).mono ?_)
  · go_simp
  rintro e w5 ⟨rfl, rfl⟩
  refine ⟨_, rfl, ?_⟩
  refine m_keep ⟨d0, d1⟩ ?_
  with_reducible refine m_one ?_
  have hl := lose_names S name
  have hch := changes_any w1.drew M (S.lose name) (H1.out.drewN 1) ⟨dirOf name, 0, .del name⟩ (.func (.func 78) #[] #[.pointer (some ⟨b1, 0, none⟩)])
    ⟨by unfold maxLen; omega, b1, rfl, Y1.out⟩ (by rw [hl.1]; unfold maxLen; omega) (by rw [hl.2.1]; omega)
  refine l_call ?_ (hch.mono ?_)
  · go_simp
  rintro e w6 ⟨rfl, M6, h6, g6⟩
  refine ⟨_, rfl, ?_⟩
  with_reducible refine m_last ?_
  with_reducible refine m_end ?_
  simp only [Act.put, List.setIfInBounds_toArray, List.set_cons_zero, List.set_cons_succ]
  have Hfin : Hid (ChsPost w M (S.remove1 name) (.returned (.tuple #[])) w6) := Lib.hid ⟨rfl, M6, h6, G1.out.trans ((Gr.drewN M w1 1).trans g6)⟩
  clear h6 g6 hch d0 d1 Y0 Y1 H1 G1 hl
  go_wp2_with fail
  go_end0
  exact Hfin.out
set_option maxHeartbeats 4000000 in
set_option maxRecDepth 10000 in
theorem rename1_any (w : World) (M : FsMem) (S : FsSt) (h : FsAt w M S) (a b : ByteArray) (b0 b1 b2 : Nat)
    (h0 : w.heap[b0]? = some (.cells #[.string a] 9 (0, 0))) (h1 : w.heap[b1]? = some (.cells #[.string b] 9 (0, 0))) (h2 : w.heap[b2]? = some (.cells #[.pointer (some ⟨M.fb, 0, none⟩)] 25 (0, 0)))
    (ha : a.size ≤ 1048576) (hb : b.size ≤ 1048576) (hna : nget S.names a ≤ 9223372036854775807) (hnb : nget S.names b ≤ 9223372036854775807) (hz : -1099511627776 ≤ S.size ∧ S.size ≤ 1099511627776) (hl : ∀ i, S.lenAt i ≤ 1099511627776) (hnm : Maps.size S.names ≤ 1099511627776) (hpl : S.pend.length ≤ 1099511627776) :
    Calls Tryz.prog 74 #[.pointer (some ⟨b0, 0, none⟩), .pointer (some ⟨b1, 0, none⟩), .pointer (some ⟨b2, 0, none⟩)] w (ChsPost w M (S.rename1 a b)) := by
  obtain ⟨P, hP⟩ : ∃ P, P = ChsPost w M (S.rename1 a b) := ⟨_, rfl⟩
  rw [← hP]
  have HP := Lib.hid hP
  have k0 := box_cell h0
  have k1 := box_cell h1
  have k2 := box_cell h2
  have H := Lib.hid h
  have X0 := Lib.hid h0
  have X1 := Lib.hid h1
  have X2 := Lib.hid h2
  clear h h0 h1 h2 hP
  by_cases hab : a = b
  · have hq : (a.toList == b.toList) = true := by rw [hab]; simp
    go_enter Tryz.func74, Tryz.ntmps74
    go_wp2_with fail
    go_end0
    rw [HP.out]
    unfold FsSt.rename1
    rw [if_pos hab]
    exact ⟨rfl, M, H.out, Gr.refl _ _⟩
  have hq : (a.toList == b.toList) = false := by
    rw [beq_eq_false_iff_ne]
    intro e
    rw [toList_toL, toList_toL] at e
    exact hab (toL_inj e)
  go_enter Tryz.func74, Tryz.ntmps74
  go_wp2_with fail
  have hn1 := (show FsAt w.drew M S from H.out.drewN 1).name_run a (by unfold maxLen; omega)
  have e0 : w.drew.cell? ⟨b0, 0, none⟩ = some (.string a) := k0
  have e2 : w.drew.cell? ⟨b2, 0, none⟩ = some (.pointer (some ⟨M.fb, 0, none⟩)) := k2
  have e3 : w.drew.cell? ⟨M.fb, 3, none⟩ = some (.map (some M.nm)) := (H.out.cell 3 _ rfl).1
  obtain ⟨ka, hka⟩ : ∃ k, k = nget S.names a := ⟨_, rfl⟩
  rw [← hka] at hn1 hna
  have Hka := Lib.hid hka
  clear hka
  with_reducible refine g_mixx [(0, 0), (1, 0), (2, 0), (3, 0), (4, 0), (5, 0), (6, 2), (7, 3)] (fun w' => (w'.cell? ⟨b0, 0, none⟩ = some (.string a) ∧ w'.cell? ⟨b2, 0, none⟩ = some (.pointer (some ⟨M.fb, 0, none⟩))) ∧ w'.cell? ⟨M.fb, 3, none⟩ = some (.map (some M.nm)) ∧ (Instr.lookup 46 (.map (some M.nm)) (.string a) false).run Tryz.prog w' = .ok (.int .i64 (ka : Nat)) w') 0 _ rfl (by kernel_rfl) (by kernel_rfl) ?_ ?_
  · exact ⟨⟨e0, e2⟩, e3, hn1⟩
  intro OPS HD
  simp only [mixX, nthO, consX]
  iterate 6 ((with_reducible refine x_val (v := ?_) ?_ ?_ ?_); rotate_left; (rintro _ ⟨⟨h1, h2⟩, h3, h4⟩; go_simp; first | done | rfl | (constructor <;> rfl)); exact ⟨⟨e0, e2⟩, e3, hn1⟩)
  with_reducible refine x_one ?_
  iterate 1 (with_reducible refine l_val (v := ?_) (w' := ?_) ?_ ?_; rotate_left 2; (go_simp; first | done | rfl | (constructor <;> rfl)))
  have hba : Below w.drew.heap.size w.drew (w.drew.alloc (.cells #[.int .i64 0] 3)) := (Below.refl _ _).alloc (Nat.le_refl _) _
  have hat : FsAt (w.drew.alloc (.cells #[.int .i64 0] 3)) M S := (show FsAt w.drew M S from H.out.drewN 1).below hba
  have hn2 := hat.name_run a (by unfold maxLen; omega)
  rw [← Hka.out] at hn2
  refine x_keep ⟨⟨Cells.alloc _ _ _ _ e0, Cells.alloc _ _ _ _ e2⟩, Cells.alloc _ _ _ _ e3, hn2⟩ ?_
  have hbn : (w.drew.alloc (.cells #[.int .i64 0] 3)).heap[w.heap.size]? = some (.cells #[.int .i64 0] 3 (0, 0)) := heap_alloc_new w.drew (.cells #[.int .i64 0] 3)
  have fn : (w.drew.alloc (.cells #[.int .i64 0] 3)).frozen? ⟨w.heap.size, 0, none⟩ = false := (blk_cells hbn).2.1 0
  have cn : (w.drew.alloc (.cells #[.int .i64 0] 3)).cell? ⟨w.heap.size, 0, none⟩ = some (.int .i64 0) := box_cell hbn
  have hbs := heap_setCell_at hbn 0 (.int .i64 (ka : Nat))
  have hbw : Below w.heap.size w ((w.drew.alloc (.cells #[.int .i64 0] 3)).setCell ⟨w.heap.size, 0, none⟩ (.int .i64 (ka : Nat))) := (((Below.refl _ _).drew).alloc (Nat.le_refl _) _).setCell (Nat.le_refl _) _
  have H2 := Lib.hid (H.out.below hbw)
  have G2 := Lib.hid (Gr.of_below (M := M) hbw)
  have Y0 := Lib.hid ((hbw.block _ (lt_of_heap X0.out)).trans X0.out)
  have Y1 := Lib.hid ((hbw.block _ (lt_of_heap X1.out)).trans X1.out)
  have Y2 := Lib.hid ((hbw.block _ (lt_of_heap X2.out)).trans X2.out)
  have Y3 : Hid (((w.drew.alloc (.cells #[.int .i64 0] 3)).setCell ⟨w.heap.size, 0, none⟩ (.int .i64 (ka : Nat))).heap[w.heap.size]? = some (.cells #[.int .i64 (ka : Nat)] 3 (0, 0))) := Lib.hid hbs
  with_reducible refine x_three ?_
  with_reducible refine l_skip (w' := (w.drew.alloc (.cells #[.int .i64 0] 3)).setCell ⟨w.heap.size, 0, none⟩ (.int .i64 (ka : Nat))) ?_ ?_
  · go_simp
  refine x_last ?_
  with_reducible refine x_end ?_
  simp only [Act.put, List.setIfInBounds_toArray, List.set_cons_zero, List.set_cons_succ]
  clear hba hat hn2 hbn fn cn hbs hbw e0 e2 e3 hn1 k0 k1 k2 X0 X1 X2 H
  generalize (w.drew.alloc (.cells #[.int .i64 0] 3)).setCell ⟨w.heap.size, 0, none⟩ (.int .i64 (ka : Nat)) = w2 at *
  generalize w.heap.size = b3 at *
  have k1 := box_cell Y1.out
  have k2 := box_cell Y2.out
  go_wp2_with fail
  refine (lose_any _ M S H2.out b hb hnb hz hl).mono ?_
  rintro e w3 ⟨rfl, h3, f3⟩
  have Z0 := Lib.hid (box_keptT f3 Y0.out boxStr)
  have Z1 := Lib.hid (box_keptT f3 Y1.out boxStr)
  have Z2 := Lib.hid (box_keptT f3 Y2.out boxFS)
  have Z3 := Lib.hid (box_keptT f3 Y3.out boxInt)
  have H3 := Lib.hid h3
  have G3 := Lib.hid (G2.out.trans (Gr.own f3))
  clear h3 f3 k1 k2 Y0 Y1 Y2 Y3 H2 G2
  go_wp2_with fail
  have d1 : w3.drew.cell? ⟨b1, 0, none⟩ = some (.string b) := box_cell Z1.out
  have d2 : w3.drew.cell? ⟨b2, 0, none⟩ = some (.pointer (some ⟨M.fb, 0, none⟩)) := box_cell Z2.out
  have d3 : w3.drew.cell? ⟨b3, 0, none⟩ = some (.int .i64 (ka : Nat)) := box_cell Z3.out
  with_reducible refine g_mix [(0, none), (1, none), (3, none), (4, none), (2, some false), (5, some true)] (fun w' => (w'.cell? ⟨b1, 0, none⟩ = some (.string b) ∧ w'.cell? ⟨b2, 0, none⟩ = some (.pointer (some ⟨M.fb, 0, none⟩))) ∧ w'.cell? ⟨b3, 0, none⟩ = some (.int .i64 (ka : Nat))) (by kernel_rfl) (by kernel_rfl) ?_
  intro OPS
  simp only [mixOf, nthO, consO]
  iterate 4 ((with_reducible refine m_val (v := ?_) ?_ ?_ ?_); rotate_left; (rintro _ ⟨⟨h1, h2⟩, h3⟩; go_simp; first | done | rfl | (constructor <;> rfl)); exact ⟨⟨d1, d2⟩, d3⟩)
  with_reducible refine m_one ?_
  refine l_call ?_ ((dir_any w3.drew b hb).mono ?_)
  · go_simp
  rintro e w5 ⟨rfl, rfl⟩
  refine ⟨_, rfl, ?_⟩
  refine m_keep ⟨⟨d1, d2⟩, d3⟩ ?_
  with_reducible refine m_one ?_
  have hls := lose_names S b
  have hch := changes_any w3.drew M (S.lose b) (H3.out.drewN 1) ⟨dirOf b, ka, .move a b ka⟩ (.func (.func 76) #[] #[.pointer (some ⟨b0, 0, none⟩), .pointer (some ⟨b3, 0, none⟩), .pointer (some ⟨b1, 0, none⟩)])
    ⟨by unfold maxLen; omega, by unfold maxLen; omega, by omega, b0, b1, b3, rfl, Z0.out, Z1.out, Z3.out⟩ (by rw [hls.1]; unfold maxLen; omega) (by rw [hls.2.1]; omega)
  refine l_call ?_ (hch.mono ?_)
  · go_simp
  rintro e w6 ⟨rfl, M6, h6, g6⟩
  refine ⟨_, rfl, ?_⟩
  with_reducible refine m_last ?_
  with_reducible refine m_end ?_
  simp only [Act.put, List.setIfInBounds_toArray, List.set_cons_zero, List.set_cons_succ]
  have Hfin : Hid (P (.returned (.tuple #[])) w6) := Lib.hid (by
    rw [HP.out]
    unfold FsSt.rename1
    rw [if_neg hab, ← Hka.out]
    exact ⟨rfl, M6, h6, G3.out.trans ((Gr.drewN M w3 1).trans g6)⟩)
  clear h6 g6 hch d1 d2 d3 Z0 Z1 Z2 Z3 H3 G3 hls
  go_wp2_with fail
  go_end0
  exact Hfin.out
end Go.Proofs.YtaolddgnannojaaGreatDoor
namespace Go.Proofs.YtaolddgnannojaaGreatDoor
open Go.RowKit Go.Maps

attribute [local go_sem] lt1 lt2 lt3 lt4 lt5 lt6

theorem enter_r1 (args : Array Value) (w : World) : (callFunc 74 args).run Tryz.prog w = .ok (.enter 74 args) w := Go.MuLone.run_callFunc_enter Tryz.func74 (by kernel_rfl) rfl args w
theorem enter_m1 (args : Array Value) (w : World) : (callFunc 77 args).run Tryz.prog w = .ok (.enter 77 args) w := Go.MuLone.run_callFunc_enter Tryz.func77 (by kernel_rfl) rfl args w
def FsSt.rename (S : FsSt) (a b : ByteArray) : Nat × FsSt :=
  if S.down then (5, S) else if S.has a then if validF (toL b) then (S.wrErr, S.wrote (S.tick.rename1 a b)) else (1, S) else (2, S)
def FsSt.remove (S : FsSt) (a : ByteArray) : Nat × FsSt :=
  if S.down then (5, S) else if S.has a then (S.wrErr, S.wrote (S.tick.remove1 a)) else (2, S)
theorem rename1_steps (S : FsSt) (a b : ByteArray) : (S.rename1 a b).steps = S.steps := by
  unfold FsSt.rename1
  split
  · rfl
  · exact (lose_names S b).2.2
set_option maxHeartbeats 4000000 in
set_option maxRecDepth 10000 in
theorem fremove_any (w : World) (M : FsMem) (S : FsSt) (K : Nat) (h : FsAt w M S) (hi : FsInv K S) (hK : K ≤ 1048576) (name : ByteArray) (hn : name.size ≤ 1048576) :
    Calls Tryz.prog 37 #[.pointer (some ⟨M.fb, 0, none⟩), .string name] w (WrPost w M (S.remove name).2 (S.remove name).1) := by
  obtain ⟨P, hP⟩ : ∃ P, P = WrPost w M (S.remove name).2 (S.remove name).1 := ⟨_, rfl⟩
  rw [← hP]
  have HP := Lib.hid hP
  have H := Lib.hid h
  have c9 : w.cell? ⟨M.fb, 9, none⟩ = some (.bool S.down) := (h.cell 9 _ rfl).1
  have hfb := h.lt M.fb (by simp [FsMem.own])
  clear hP h
  have hB0 : Below w.heap.size w ((w.alloc (.cells #[.pointer (some ⟨M.fb, 0, none⟩)] 25)).alloc (.cells #[.string name] 9)) := ((Below.refl w.heap.size w).alloc (Nat.le_refl _) _).alloc (by simp) _
  have H0 := Lib.hid (H.out.below hB0)
  have G0 := Lib.hid (Gr.of_below (M := M) hB0)
  by_cases hdn : S.down = true
  · rw [hdn] at c9
    go_enter Tryz.func37, Tryz.ntmps37
    go_wp2_with fail
    show P (.returned (.int .i64 5)) _
    rw [HP.out]
    unfold FsSt.remove
    rw [if_pos hdn]
    exact ⟨rfl, M, H0.out, G0.out⟩
  have hdn : S.down = false := by simpa using hdn
  rw [hdn] at c9
  go_enter Tryz.func37, Tryz.ntmps37
  go_wp2_with fail
  refine (has_any _ M S H0.out name (by unfold maxLen; omega) (hi.name_le hK name)).mono ?_
  rintro e w1 ⟨rfl, nn, rfl⟩
  have q0 : ((w.alloc (.cells #[.pointer (some ⟨M.fb, 0, none⟩)] 25)).alloc (.cells #[.string name] 9)).heap[w.heap.size]? = some (.cells #[.pointer (some ⟨M.fb, 0, none⟩)] 25 (0, 0)) := (Below.heap_alloc _ _ w.heap.size (by simp)).trans (heap_alloc_new w _)
  have q1 : ((w.alloc (.cells #[.pointer (some ⟨M.fb, 0, none⟩)] 25)).alloc (.cells #[.string name] 9)).heap[w.heap.size + 1]? = some (.cells #[.string name] 9 (0, 0)) := by
    simpa using heap_alloc_new (w.alloc (.cells #[.pointer (some ⟨M.fb, 0, none⟩)] 25)) (.cells #[.string name] 9)
  have Q0 := Lib.hid q0
  have Q1 := Lib.hid q1
  clear q0 q1 hB0 H c9
  generalize (w.alloc (.cells #[.pointer (some ⟨M.fb, 0, none⟩)] 25)).alloc (.cells #[.string name] 9) = w0 at *
  generalize w.heap.size = nb at *
  have H1 := Lib.hid (H0.out.drewN nn)
  have G1 := Lib.hid (G0.out.trans (Gr.drewN M w0 nn))
  have R0 : Hid ((w0.drewN nn).heap[nb]? = some (.cells #[.pointer (some ⟨M.fb, 0, none⟩)] 25 (0, 0))) := Q0
  have R1 : Hid ((w0.drewN nn).heap[nb + 1]? = some (.cells #[.string name] 9 (0, 0))) := Q1
  have c0 := box_cell R0.out
  clear Q0 Q1 H0 G0
  generalize w0.drewN nn = w1 at *
  by_cases hh : S.has name = false
  · rw [hh]
    go_wp2_with fail
    show P (.returned (.int .i64 2)) _
    rw [HP.out]
    unfold FsSt.remove
    rw [hdn, hh]
    exact ⟨rfl, M, H1.out, G1.out⟩
  have hh : S.has name = true := by simpa using hh
  rw [hh]
  go_wp2_with fail
  have hz := hi.size' hK
  refine (write_of _ M S (S.tick.remove1 name) H1.out 77 #[.pointer (some ⟨nb, 0, none⟩), .pointer (some ⟨nb + 1, 0, none⟩)] enter_m1 hi.armed (by have := hi.steps; rw [show (S.tick.remove1 name).steps = S.steps from (lose_names S.tick name).2.2]; omega) (fun _ wx hx fx => remove1_any wx M S.tick hx name nb (nb + 1) (box_keptT fx R0.out boxFS) (box_keptT fx R1.out boxStr) hn (hi.name_le hK name) hz (fun i => by have := hi.lenAt i; show S.lenAt i ≤ _; omega) (by have := hi.names.size; show Maps.size S.names ≤ _; omega) (by have := hi.pends; show S.pend.length ≤ _; omega))).mono ?_
  rintro e w6 ⟨rfl, M6, h6, g6⟩
  have Hfin : Hid (P (.returned (.int .i64 (S.wrErr : Nat))) w6) := Lib.hid (by
    rw [HP.out]
    unfold FsSt.remove
    rw [hdn, hh]
    exact ⟨rfl, M6, h6, G1.out.trans g6⟩)
  clear h6 g6
  go_wp2_with fail
  exact Hfin.out
set_option maxHeartbeats 4000000 in
set_option maxRecDepth 10000 in
theorem frename_any (w : World) (M : FsMem) (S : FsSt) (K : Nat) (h : FsAt w M S) (hi : FsInv K S) (hK : K ≤ 1048576) (hm : MaxL w) (a b : ByteArray) (ha : a.size ≤ 1048576) (hb : b.size ≤ 1048576) :
    Calls Tryz.prog 35 #[.pointer (some ⟨M.fb, 0, none⟩), .string a, .string b] w (WrPost w M (S.rename a b).2 (S.rename a b).1) := by
  obtain ⟨P, hP⟩ : ∃ P, P = WrPost w M (S.rename a b).2 (S.rename a b).1 := ⟨_, rfl⟩
  rw [← hP]
  have HP := Lib.hid hP
  have H := Lib.hid h
  have HM := Lib.hid hm
  have c9 : w.cell? ⟨M.fb, 9, none⟩ = some (.bool S.down) := (h.cell 9 _ rfl).1
  have hfb := h.lt M.fb (by simp [FsMem.own])
  clear hP h hm
  have hB0 : Below w.heap.size w (((w.alloc (.cells #[.pointer (some ⟨M.fb, 0, none⟩)] 25)).alloc (.cells #[.string a] 9)).alloc (.cells #[.string b] 9)) := (((Below.refl w.heap.size w).alloc (Nat.le_refl _) _).alloc (by simp) _).alloc (by simp; omega) _
  have H0 := Lib.hid (H.out.below hB0)
  have G0 := Lib.hid (Gr.of_below (M := M) hB0)
  by_cases hdn : S.down = true
  · rw [hdn] at c9
    go_enter Tryz.func35, Tryz.ntmps35
    go_wp2_with fail
    show P (.returned (.int .i64 5)) _
    rw [HP.out]
    unfold FsSt.rename
    rw [if_pos hdn]
    exact ⟨rfl, M, H0.out, G0.out⟩
  have hdn : S.down = false := by simpa using hdn
  rw [hdn] at c9
  go_enter Tryz.func35, Tryz.ntmps35
  go_wp2_with fail
  refine (has_any _ M S H0.out a (by unfold maxLen; omega) (hi.name_le hK a)).mono ?_
  rintro e w1 ⟨rfl, nn, rfl⟩
  have HM0 := Lib.hid (HM.out.below hB0)
  have q0 : (((w.alloc (.cells #[.pointer (some ⟨M.fb, 0, none⟩)] 25)).alloc (.cells #[.string a] 9)).alloc (.cells #[.string b] 9)).heap[w.heap.size]? = some (.cells #[.pointer (some ⟨M.fb, 0, none⟩)] 25 (0, 0)) := (Below.heap_alloc _ _ w.heap.size (by simp; omega)).trans ((Below.heap_alloc _ _ w.heap.size (by simp)).trans (heap_alloc_new w _))
  have q1 : (((w.alloc (.cells #[.pointer (some ⟨M.fb, 0, none⟩)] 25)).alloc (.cells #[.string a] 9)).alloc (.cells #[.string b] 9)).heap[w.heap.size + 1]? = some (.cells #[.string a] 9 (0, 0)) := (Below.heap_alloc _ _ _ (by simp)).trans (by
    simpa using heap_alloc_new (w.alloc (.cells #[.pointer (some ⟨M.fb, 0, none⟩)] 25)) (.cells #[.string a] 9))
  have q2 : (((w.alloc (.cells #[.pointer (some ⟨M.fb, 0, none⟩)] 25)).alloc (.cells #[.string a] 9)).alloc (.cells #[.string b] 9)).heap[w.heap.size + 1 + 1]? = some (.cells #[.string b] 9 (0, 0)) := by
    simpa using heap_alloc_new ((w.alloc (.cells #[.pointer (some ⟨M.fb, 0, none⟩)] 25)).alloc (.cells #[.string a] 9)) (.cells #[.string b] 9)
  have Q0 := Lib.hid q0
  have Q1 := Lib.hid q1
  have Q2 := Lib.hid q2
  clear q0 q1 q2 hB0 H c9 HM
  generalize ((w.alloc (.cells #[.pointer (some ⟨M.fb, 0, none⟩)] 25)).alloc (.cells #[.string a] 9)).alloc (.cells #[.string b] 9) = w0 at *
  generalize w.heap.size = nb at *
  have H1 := Lib.hid (H0.out.drewN nn)
  have G1 := Lib.hid (G0.out.trans (Gr.drewN M w0 nn))
  have R0 : Hid ((w0.drewN nn).heap[nb]? = some (.cells #[.pointer (some ⟨M.fb, 0, none⟩)] 25 (0, 0))) := Q0
  have R1 : Hid ((w0.drewN nn).heap[nb + 1]? = some (.cells #[.string a] 9 (0, 0))) := Q1
  have R2 : Hid ((w0.drewN nn).heap[nb + 1 + 1]? = some (.cells #[.string b] 9 (0, 0))) := Q2
  have HM1 := Lib.hid (HM0.out.keep (Cells.drewN w0 nn))
  have c0 := box_cell R0.out
  have c2 := box_cell R2.out
  clear Q0 Q1 Q2 H0 G0 HM0
  generalize w0.drewN nn = w1 at *
  by_cases hh : S.has a = false
  · rw [hh]
    go_wp2_with fail
    show P (.returned (.int .i64 2)) _
    rw [HP.out]
    unfold FsSt.rename
    rw [hdn, hh]
    exact ⟨rfl, M, H1.out, G1.out⟩
  have hh : S.has a = true := by simpa using hh
  rw [hh]
  go_wp2_with fail
  refine (valid_any _ b hb HM1.out).mono ?_
  rintro e w2 ⟨rfl, hb2⟩
  have H2 := Lib.hid (H1.out.below hb2)
  have G2 := Lib.hid (G1.out.trans (Gr.of_below (M := M) hb2))
  have T0 := Lib.hid ((hb2.block _ (lt_of_heap R0.out)).trans R0.out)
  have T1 := Lib.hid ((hb2.block _ (lt_of_heap R1.out)).trans R1.out)
  have T2 := Lib.hid ((hb2.block _ (lt_of_heap R2.out)).trans R2.out)
  have t0 := box_cell T0.out
  clear hb2 c0 c2 R0 R1 R2 H1 G1 HM1
  by_cases hv : validF (toL b) = false
  · rw [hv]
    go_wp2_with fail
    show P (.returned (.int .i64 1)) _
    rw [HP.out]
    unfold FsSt.rename
    rw [hdn, hh, hv]
    exact ⟨rfl, M, H2.out, G2.out⟩
  have hv : validF (toL b) = true := by simpa using hv
  rw [hv]
  go_wp2_with fail
  have hz := hi.size' hK
  refine (write_of _ M S (S.tick.rename1 a b) H2.out 74 #[.pointer (some ⟨nb + 1, 0, none⟩), .pointer (some ⟨nb + 1 + 1, 0, none⟩), .pointer (some ⟨nb, 0, none⟩)] enter_r1 hi.armed (by have := hi.steps; rw [rename1_steps]; show S.steps ≤ _; omega) (fun _ wx hx fx => rename1_any wx M S.tick hx a b (nb + 1) (nb + 1 + 1) nb (box_keptT fx T1.out boxStr) (box_keptT fx T2.out boxStr) (box_keptT fx T0.out boxFS) ha hb (hi.name_le hK a) (hi.name_le hK b) hz (fun i => by have := hi.lenAt i; show S.lenAt i ≤ _; omega) (by have := hi.names.size; show Maps.size S.names ≤ _; omega) (by have := hi.pends; show S.pend.length ≤ _; omega))).mono ?_
  rintro e w6 ⟨rfl, M6, h6, g6⟩
  have Hfin : Hid (P (.returned (.int .i64 (S.wrErr : Nat))) w6) := Lib.hid (by
    rw [HP.out]
    unfold FsSt.rename
    rw [hdn, hh, hv]
    exact ⟨rfl, M6, h6, G2.out.trans g6⟩)
  clear h6 g6
  go_wp2_with fail
  exact Hfin.out
end Go.Proofs.YtaolddgnannojaaGreatDoor
