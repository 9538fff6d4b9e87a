/-
  lose, Has; Rename, Remove: their functions.
-/
import Derived.Test.YtaolddgnannojaaDoorFsAppend
namespace Go.Proofs.YtaolddgnannojaaDoor
open Go.RowKit Go.Maps

attribute [local go_sem] lt1 lt2 lt3 lt4 lt5 lt6

def FsSt.lose (S : FsSt) (name : ByteArray) : FsSt := match S.of name with
  | none => S
  | some i => { S with size := S.size - S.lenAt i }
def LosePost (w : World) (M : FsMem) (S : FsSt) (e : Ending) (w' : World) : Prop := e = .returned (.tuple #[]) ∧ FsAt w' M S ∧ Frm [M.fb] w w'
theorem FsAt.frm_drewN {w : World} {M : FsMem} {S : FsSt} (h : FsAt w M S) (n : Nat) : Frm [M.fb] w (w.drewN n) := ⟨(Fr.refl _ _).drewN n, fun k hk _ => h.mays k (by rw [List.mem_singleton.1 hk]; simp [FsMem.own])⟩
set_option maxHeartbeats 4000000 in
set_option maxRecDepth 10000 in
theorem lose_any (w : World) (M : FsMem) (S : FsSt) (h : FsAt w M S) (name : ByteArray) (hn : name.size ≤ 1048576) (hnn : nget S.names name ≤ 9223372036854775807) (hz : -1099511627776 ≤ S.size ∧ S.size ≤ 1099511627776) (hl : ∀ i, S.lenAt i ≤ 1099511627776) :
    Calls Tryd.prog 52 #[.pointer (some ⟨M.fb, 0, none⟩), .string name] w (LosePost w M (S.lose name)) := by
  obtain ⟨P, hP⟩ : ∃ P, P = LosePost w M (S.lose name) := ⟨_, rfl⟩
  rw [← hP]
  have HP := Lib.hid hP
  have H := Lib.hid h
  clear h hP
  go_enter Tryd.func52, Tryd.ntmps52
  go_wp2_with fail
  refine (of_any _ M S H.out name (by unfold maxLen; omega) hnn).mono ?_
  rintro e w1 ⟨rfl, nn, rfl⟩
  have H1 := Lib.hid (H.out.drewN nn)
  have F1 := Lib.hid (H.out.frm_drewN nn)
  generalize w.drewN nn = w1 at *
  cases hof : S.of name with
  | none =>
    have hpt : M.ptr none = .pointer none := rfl
    rw [hpt]
    have Hfin : Hid (P (.returned (.tuple #[])) w1) := Lib.hid (by rw [HP.out]; unfold FsSt.lose; rw [hof]; exact ⟨rfl, H1.out, F1.out⟩)
    go_wp2_with fail
    go_end0
    exact Hfin.out
  | some i =>
    obtain ⟨gf, hgf⟩ : ∃ gf, gf = (M.fl.getD i (0, undef)).1 := ⟨_, rfl⟩
    have hpt : M.ptr (some i) = .pointer (some ⟨gf, 0, none⟩) := by rw [hgf]; rfl
    have Hgf := Lib.hid hgf
    clear hgf
    rw [hpt]
    clear hpt
    have hil := S.idx_lt hof
    have hfile := H1.out.fileAt hil
    obtain ⟨Af, cf, hfv⟩ := data_form hfile.2
    have hf0 := hfile.1
    rw [hfv, ← Hgf.out] at hf0
    have hlen : S.lenAt i = ((S.files.getD i (0, ⟨[], 0⟩)).2.d).length := rfl
    rw [← hlen] at hf0
    have hLK := hl i
    have m1 : w1.drew.cell? ⟨gf, 0, none⟩ = some (.slice Af (S.lenAt i) cf) := (blk_cells hf0).1 0
    have m5 : w1.drew.cell? ⟨M.fb, 5, none⟩ = some (.int .i64 S.size) := (H1.out.cell 5 _ rfl).1
    have f5 : w1.drew.frozen? ⟨M.fb, 5, none⟩ = false := (blk_cells H1.out.blk).2.1 5
    have r1 : IntKind.i64.wrap (S.size - (S.lenAt i : Nat)) = S.size - (S.lenAt i : Nat) := by rw [IntKind.wrap_i64]; omega
    obtain ⟨h7, f7⟩ := (show FsAt w1.drew M _ from H1.out.drewN 1).put (S' := { S with size := S.size - S.lenAt i }) 5 (.int .i64 (S.size - S.lenAt i)) rfl rfl rfl rfl rfl
    have Hfin : Hid (P (.returned (.tuple #[])) (w1.drew.setCell ⟨M.fb, 5, none⟩ (.int .i64 (S.size - S.lenAt i)))) := Lib.hid (by rw [HP.out]; unfold FsSt.lose; rw [hof]; exact ⟨rfl, h7, F1.out.trans ((show Frm [M.fb] w1 w1.drew from H1.out.frm_drewN 1).trans f7)⟩)
    clear hfile hfv hf0 hlen h7 f7
    generalize S.lenAt i = L at *
    go_wp2_with fail
    with_reducible refine g_mix [(0, none), (1, none), (2, none), (3, none), (4, none), (5, none), (6, none), (7, none), (8, none), (9, none), (10, none), (11, none), (12, some true)] (fun w' => w'.cell? ⟨gf, 0, none⟩ = some (.slice Af L cf) ∧ w'.cell? ⟨M.fb, 5, none⟩ = some (.int .i64 S.size)) (by kernel_rfl) (by kernel_rfl) ?_
    intro OPS
    simp only [mixOf, nthO, consO]
    iterate 12 ((with_reducible refine m_val (v := ?_) ?_ ?_ ?_); rotate_left; (rintro _ ⟨h1, h2⟩; (try simp only [r1]); go_simp; first | done | rfl | (constructor <;> rfl)); exact ⟨m1, m5⟩)
    with_reducible refine m_one ?_
    with_reducible refine l_skip (w' := w1.drew.setCell ⟨M.fb, 5, none⟩ (.int .i64 (S.size - L))) ?_ ?_
    · go_simp
    with_reducible refine m_last ?_
    with_reducible refine m_end ?_
    simp only [Act.put, List.setIfInBounds_toArray, List.set_cons_zero, List.set_cons_succ]
    go_wp2_with fail
    go_end0
    exact Hfin.out
def FsSt.has (S : FsSt) (s : ByteArray) : Bool := (S.of s).isSome
theorem has_any (w : World) (M : FsMem) (S : FsSt) (h : FsAt w M S) (s : ByteArray) (hs : s.size ≤ maxLen) (hn : nget S.names s ≤ 9223372036854775807) :
    Calls Tryd.prog 50 #[.pointer (some ⟨M.fb, 0, none⟩), .string s] w fun e w' => e = .returned (.bool (S.has s)) ∧ ∃ n, w' = w.drewN n := by
  have H := Lib.hid h
  clear h
  go_enter Tryd.func50, Tryd.ntmps50
  go_wp2_with fail
  refine (of_any _ M S H.out s hs hn).mono ?_
  rintro e w1 ⟨rfl, nn, rfl⟩
  cases hof : S.of s with
  | none =>
    have hpt : M.ptr none = .pointer none := rfl
    rw [hpt]
    go_wp2_with fail
    go_ret
    exact ⟨by unfold FsSt.has; rw [hof]; rfl, _, rfl⟩
  | some i =>
    obtain ⟨gf, hgf⟩ : ∃ gf, gf = (M.fl.getD i (0, undef)).1 := ⟨_, rfl⟩
    have hpt : M.ptr (some i) = .pointer (some ⟨gf, 0, none⟩) := by rw [hgf]; rfl
    clear hgf
    rw [hpt]
    clear hpt
    go_wp2_with fail
    go_ret
    exact ⟨by unfold FsSt.has; rw [hof]; rfl, _, rfl⟩
def FsSt.rename1 (S : FsSt) (a b : ByteArray) : FsSt := if a = b then S else (S.lose b).changes ⟨dirOf b, nget S.names a, .move a b (nget S.names a)⟩
def FsSt.remove1 (S : FsSt) (a : ByteArray) : FsSt := (S.lose a).changes ⟨dirOf a, 0, .del a⟩
theorem lose_names (S : FsSt) (a : ByteArray) : (S.lose a).names = S.names ∧ (S.lose a).pend = S.pend ∧ (S.lose a).steps = S.steps := by
  unfold FsSt.lose
  split <;> exact ⟨rfl, rfl, rfl⟩
set_option maxHeartbeats 4000000 in
set_option maxRecDepth 10000 in
theorem remove1_any (w : World) (M : FsMem) (S : FsSt) (h : FsAt w M S) (name : ByteArray) (b0 b1 : Nat)
    (h0 : w.heap[b0]? = some (.cells #[.pointer (some ⟨M.fb, 0, none⟩)] 24 (0, 0))) (h1 : w.heap[b1]? = some (.cells #[.string name] 9 (0, 0)))
    (hn : name.size ≤ 1048576) (hnn : nget S.names name ≤ 9223372036854775807) (hz : -1099511627776 ≤ S.size ∧ S.size ≤ 1099511627776) (hl : ∀ i, S.lenAt i ≤ 1099511627776) (hnm : Maps.size S.names ≤ 1099511627776) (hpl : S.pend.length ≤ 1099511627776) :
    Calls Tryd.prog 69 #[.pointer (some ⟨b0, 0, none⟩), .pointer (some ⟨b1, 0, none⟩)] w (ChsPost w M (S.remove1 name)) := by
  have k0 := box_cell h0
  have k1 := box_cell h1
  have H := Lib.hid h
  have X0 := Lib.hid h0
  have X1 := Lib.hid h1
  clear h h0 h1
  go_enter Tryd.func69, Tryd.ntmps69
  go_wp2_with fail
  refine (lose_any _ M S H.out name hn hnn hz hl).mono ?_
  rintro e w1 ⟨rfl, h1, f1⟩
  have Y0 := Lib.hid (box_keptT f1 X0.out boxFS)
  have Y1 := Lib.hid (box_keptT f1 X1.out boxStr)
  have H1 := Lib.hid h1
  have G1 := Lib.hid (Gr.own f1)
  clear h1 f1 k0 k1 X0 X1 H
  go_wp2_with fail
  have d0 : w1.drew.cell? ⟨b0, 0, none⟩ = some (.pointer (some ⟨M.fb, 0, none⟩)) := box_cell Y0.out
  have d1 : w1.drew.cell? ⟨b1, 0, none⟩ = some (.string name) := box_cell Y1.out
  with_reducible refine g_mix [(0, none), (1, none), (3, none), (2, some false), (4, some true)] (fun w' => w'.cell? ⟨b0, 0, none⟩ = some (.pointer (some ⟨M.fb, 0, none⟩)) ∧ w'.cell? ⟨b1, 0, none⟩ = some (.string name)) (by kernel_rfl) (by kernel_rfl) ?_
  intro OPS
  simp only [mixOf, nthO, consO]
  iterate 3 ((with_reducible refine m_val (v := ?_) ?_ ?_ ?_); rotate_left; (rintro _ ⟨h1, h2⟩; go_simp; first | done | rfl | (constructor <;> rfl)); exact ⟨d0, d1⟩)
  with_reducible refine m_one ?_
  refine l_call ?_ ((dir_any w1.drew name hn).mono ?_)
  · go_simp
  rintro e w5 ⟨rfl, rfl⟩
  refine ⟨_, rfl, ?_⟩
  refine m_keep ⟨d0, d1⟩ ?_
  with_reducible refine m_one ?_
  have hl := lose_names S name
  have hch := changes_any w1.drew M (S.lose name) (H1.out.drewN 1) ⟨dirOf name, 0, .del name⟩ (.func (.func 70) #[] #[.pointer (some ⟨b1, 0, none⟩)])
    ⟨by unfold maxLen; omega, b1, rfl, Y1.out⟩ (by rw [hl.1]; unfold maxLen; omega) (by rw [hl.2.1]; omega)
  refine l_call ?_ (hch.mono ?_)
  · go_simp
  rintro e w6 ⟨rfl, M6, h6, g6⟩
  refine ⟨_, rfl, ?_⟩
  with_reducible refine m_last ?_
  with_reducible refine m_end ?_
  simp only [Act.put, List.setIfInBounds_toArray, List.set_cons_zero, List.set_cons_succ]
  have Hfin : Hid (ChsPost w M (S.remove1 name) (.returned (.tuple #[])) w6) := Lib.hid ⟨rfl, M6, h6, G1.out.trans ((Gr.drewN M w1 1).trans g6)⟩
  clear h6 g6 hch d0 d1 Y0 Y1 H1 G1 hl
  go_wp2_with fail
  go_end0
  exact Hfin.out
set_option maxHeartbeats 4000000 in
set_option maxRecDepth 10000 in
theorem rename1_any (w : World) (M : FsMem) (S : FsSt) (h : FsAt w M S) (a b : ByteArray) (b0 b1 b2 : Nat)
    (h0 : w.heap[b0]? = some (.cells #[.string a] 9 (0, 0))) (h1 : w.heap[b1]? = some (.cells #[.string b] 9 (0, 0))) (h2 : w.heap[b2]? = some (.cells #[.pointer (some ⟨M.fb, 0, none⟩)] 24 (0, 0)))
    (ha : a.size ≤ 1048576) (hb : b.size ≤ 1048576) (hna : nget S.names a ≤ 9223372036854775807) (hnb : nget S.names b ≤ 9223372036854775807) (hz : -1099511627776 ≤ S.size ∧ S.size ≤ 1099511627776) (hl : ∀ i, S.lenAt i ≤ 1099511627776) (hnm : Maps.size S.names ≤ 1099511627776) (hpl : S.pend.length ≤ 1099511627776) :
    Calls Tryd.prog 51 #[.pointer (some ⟨b0, 0, none⟩), .pointer (some ⟨b1, 0, none⟩), .pointer (some ⟨b2, 0, none⟩)] w (ChsPost w M (S.rename1 a b)) := by
  obtain ⟨P, hP⟩ : ∃ P, P = ChsPost w M (S.rename1 a b) := ⟨_, rfl⟩
  rw [← hP]
  have HP := Lib.hid hP
  have k0 := box_cell h0
  have k1 := box_cell h1
  have k2 := box_cell h2
  have H := Lib.hid h
  have X0 := Lib.hid h0
  have X1 := Lib.hid h1
  have X2 := Lib.hid h2
  clear h h0 h1 h2 hP
  by_cases hab : a = b
  · have hq : (a.toList == b.toList) = true := by rw [hab]; simp
    go_enter Tryd.func51, Tryd.ntmps51
    go_wp2_with fail
    go_end0
    rw [HP.out]
    unfold FsSt.rename1
    rw [if_pos hab]
    exact ⟨rfl, M, H.out, Gr.refl _ _⟩
  have hq : (a.toList == b.toList) = false := by
    rw [beq_eq_false_iff_ne]
    intro e
    rw [toList_toL, toList_toL] at e
    exact hab (toL_inj e)
  go_enter Tryd.func51, Tryd.ntmps51
  go_wp2_with fail
  have hn1 := (show FsAt w.drew M S from H.out.drewN 1).name_run a (by unfold maxLen; omega)
  have e0 : w.drew.cell? ⟨b0, 0, none⟩ = some (.string a) := k0
  have e2 : w.drew.cell? ⟨b2, 0, none⟩ = some (.pointer (some ⟨M.fb, 0, none⟩)) := k2
  have e3 : w.drew.cell? ⟨M.fb, 3, none⟩ = some (.map (some M.nm)) := (H.out.cell 3 _ rfl).1
  obtain ⟨ka, hka⟩ : ∃ k, k = nget S.names a := ⟨_, rfl⟩
  rw [← hka] at hn1 hna
  have Hka := Lib.hid hka
  clear hka
  with_reducible refine g_mixx [(0, 0), (1, 0), (2, 0), (3, 0), (4, 0), (5, 0), (6, 2), (7, 3)] (fun w' => (w'.cell? ⟨b0, 0, none⟩ = some (.string a) ∧ w'.cell? ⟨b2, 0, none⟩ = some (.pointer (some ⟨M.fb, 0, none⟩))) ∧ w'.cell? ⟨M.fb, 3, none⟩ = some (.map (some M.nm)) ∧ (Instr.lookup 60 (.map (some M.nm)) (.string a) false).run Tryd.prog w' = .ok (.int .i64 (ka : Nat)) w') 0 _ rfl (by kernel_rfl) (by kernel_rfl) ?_ ?_
  · exact ⟨⟨e0, e2⟩, e3, hn1⟩
  intro OPS HD
  simp only [mixX, nthO, consX]
  iterate 6 ((with_reducible refine x_val (v := ?_) ?_ ?_ ?_); rotate_left; (rintro _ ⟨⟨h1, h2⟩, h3, h4⟩; go_simp; first | done | rfl | (constructor <;> rfl)); exact ⟨⟨e0, e2⟩, e3, hn1⟩)
  with_reducible refine x_one ?_
  iterate 1 (with_reducible refine l_val (v := ?_) (w' := ?_) ?_ ?_; rotate_left 2; (go_simp; first | done | rfl | (constructor <;> rfl)))
  have hba : Below w.drew.heap.size w.drew (w.drew.alloc (.cells #[.int .i64 0] 3)) := (Below.refl _ _).alloc (Nat.le_refl _) _
  have hat : FsAt (w.drew.alloc (.cells #[.int .i64 0] 3)) M S := (show FsAt w.drew M S from H.out.drewN 1).below hba
  have hn2 := hat.name_run a (by unfold maxLen; omega)
  rw [← Hka.out] at hn2
  refine x_keep ⟨⟨Cells.alloc _ _ _ _ e0, Cells.alloc _ _ _ _ e2⟩, Cells.alloc _ _ _ _ e3, hn2⟩ ?_
  have hbn : (w.drew.alloc (.cells #[.int .i64 0] 3)).heap[w.heap.size]? = some (.cells #[.int .i64 0] 3 (0, 0)) := heap_alloc_new w.drew (.cells #[.int .i64 0] 3)
  have fn : (w.drew.alloc (.cells #[.int .i64 0] 3)).frozen? ⟨w.heap.size, 0, none⟩ = false := (blk_cells hbn).2.1 0
  have cn : (w.drew.alloc (.cells #[.int .i64 0] 3)).cell? ⟨w.heap.size, 0, none⟩ = some (.int .i64 0) := box_cell hbn
  have hbs := heap_setCell_at hbn 0 (.int .i64 (ka : Nat))
  have hbw : Below w.heap.size w ((w.drew.alloc (.cells #[.int .i64 0] 3)).setCell ⟨w.heap.size, 0, none⟩ (.int .i64 (ka : Nat))) := (((Below.refl _ _).drew).alloc (Nat.le_refl _) _).setCell (Nat.le_refl _) _
  have H2 := Lib.hid (H.out.below hbw)
  have G2 := Lib.hid (Gr.of_below (M := M) hbw)
  have Y0 := Lib.hid ((hbw.block _ (lt_of_heap X0.out)).trans X0.out)
  have Y1 := Lib.hid ((hbw.block _ (lt_of_heap X1.out)).trans X1.out)
  have Y2 := Lib.hid ((hbw.block _ (lt_of_heap X2.out)).trans X2.out)
  have Y3 : Hid (((w.drew.alloc (.cells #[.int .i64 0] 3)).setCell ⟨w.heap.size, 0, none⟩ (.int .i64 (ka : Nat))).heap[w.heap.size]? = some (.cells #[.int .i64 (ka : Nat)] 3 (0, 0))) := Lib.hid hbs
  with_reducible refine x_three ?_
  with_reducible refine l_skip (w' := (w.drew.alloc (.cells #[.int .i64 0] 3)).setCell ⟨w.heap.size, 0, none⟩ (.int .i64 (ka : Nat))) ?_ ?_
  · go_simp
  refine x_last ?_
  with_reducible refine x_end ?_
  simp only [Act.put, List.setIfInBounds_toArray, List.set_cons_zero, List.set_cons_succ]
  clear hba hat hn2 hbn fn cn hbs hbw e0 e2 e3 hn1 k0 k1 k2 X0 X1 X2 H
  generalize (w.drew.alloc (.cells #[.int .i64 0] 3)).setCell ⟨w.heap.size, 0, none⟩ (.int .i64 (ka : Nat)) = w2 at *
  generalize w.heap.size = b3 at *
  have k1 := box_cell Y1.out
  have k2 := box_cell Y2.out
  go_wp2_with fail
  refine (lose_any _ M S H2.out b hb hnb hz hl).mono ?_
  rintro e w3 ⟨rfl, h3, f3⟩
  have Z0 := Lib.hid (box_keptT f3 Y0.out boxStr)
  have Z1 := Lib.hid (box_keptT f3 Y1.out boxStr)
  have Z2 := Lib.hid (box_keptT f3 Y2.out boxFS)
  have Z3 := Lib.hid (box_keptT f3 Y3.out boxInt)
  have H3 := Lib.hid h3
  have G3 := Lib.hid (G2.out.trans (Gr.own f3))
  clear h3 f3 k1 k2 Y0 Y1 Y2 Y3 H2 G2
  go_wp2_with fail
  have d1 : w3.drew.cell? ⟨b1, 0, none⟩ = some (.string b) := box_cell Z1.out
  have d2 : w3.drew.cell? ⟨b2, 0, none⟩ = some (.pointer (some ⟨M.fb, 0, none⟩)) := box_cell Z2.out
  have d3 : w3.drew.cell? ⟨b3, 0, none⟩ = some (.int .i64 (ka : Nat)) := box_cell Z3.out
  with_reducible refine g_mix [(0, none), (1, none), (3, none), (4, none), (2, some false), (5, some true)] (fun w' => (w'.cell? ⟨b1, 0, none⟩ = some (.string b) ∧ w'.cell? ⟨b2, 0, none⟩ = some (.pointer (some ⟨M.fb, 0, none⟩))) ∧ w'.cell? ⟨b3, 0, none⟩ = some (.int .i64 (ka : Nat))) (by kernel_rfl) (by kernel_rfl) ?_
  intro OPS
  simp only [mixOf, nthO, consO]
  iterate 4 ((with_reducible refine m_val (v := ?_) ?_ ?_ ?_); rotate_left; (rintro _ ⟨⟨h1, h2⟩, h3⟩; go_simp; first | done | rfl | (constructor <;> rfl)); exact ⟨⟨d1, d2⟩, d3⟩)
  with_reducible refine m_one ?_
  refine l_call ?_ ((dir_any w3.drew b hb).mono ?_)
  · go_simp
  rintro e w5 ⟨rfl, rfl⟩
  refine ⟨_, rfl, ?_⟩
  refine m_keep ⟨⟨d1, d2⟩, d3⟩ ?_
  with_reducible refine m_one ?_
  have hls := lose_names S b
  have hch := changes_any w3.drew M (S.lose b) (H3.out.drewN 1) ⟨dirOf b, ka, .move a b ka⟩ (.func (.func 53) #[] #[.pointer (some ⟨b0, 0, none⟩), .pointer (some ⟨b3, 0, none⟩), .pointer (some ⟨b1, 0, none⟩)])
    ⟨by unfold maxLen; omega, by unfold maxLen; omega, by omega, b0, b1, b3, rfl, Z0.out, Z1.out, Z3.out⟩ (by rw [hls.1]; unfold maxLen; omega) (by rw [hls.2.1]; omega)
  refine l_call ?_ (hch.mono ?_)
  · go_simp
  rintro e w6 ⟨rfl, M6, h6, g6⟩
  refine ⟨_, rfl, ?_⟩
  with_reducible refine m_last ?_
  with_reducible refine m_end ?_
  simp only [Act.put, List.setIfInBounds_toArray, List.set_cons_zero, List.set_cons_succ]
  have Hfin : Hid (P (.returned (.tuple #[])) w6) := Lib.hid (by
    rw [HP.out]
    unfold FsSt.rename1
    rw [if_neg hab, ← Hka.out]
    exact ⟨rfl, M6, h6, G3.out.trans ((Gr.drewN M w3 1).trans g6)⟩)
  clear h6 g6 hch d1 d2 d3 Z0 Z1 Z2 Z3 H3 G3 hls
  go_wp2_with fail
  go_end0
  exact Hfin.out
end Go.Proofs.YtaolddgnannojaaDoor
