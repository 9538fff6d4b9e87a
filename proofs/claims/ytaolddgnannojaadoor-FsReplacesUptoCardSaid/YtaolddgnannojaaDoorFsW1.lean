/-
  Write: what it does if it is not the write that fails.
-/
import Derived.Test.YtaolddgnannojaaDoorFsFile
import Derived.Test.YtaolddgnannojaaDoorFsValid
namespace Go.Proofs.YtaolddgnannojaaDoor
open Go.RowKit Go.Maps

attribute [local go_sem] lt1 lt2 lt3 lt4 lt5 lt6

def FsSt.write1 (S : FsSt) (name : ByteArray) (d : List UInt8) (n : Int) : FsSt :=
  FsSt.changes { S with last := S.last + 1, files := S.files ++ [(S.last + 1, ⟨d, 0⟩)], size := S.size + n } ⟨dirOf name, S.last + 1, .put name (S.last + 1)⟩
theorem boxFS : BoxT 24 := by unfold BoxT; decide
theorem boxInt : BoxT 3 := by unfold BoxT; decide
theorem boxStr : BoxT 9 := by unfold BoxT; decide
theorem boxBytes : BoxT 22 := by unfold BoxT; decide
theorem boxFile : BoxT 64 := by unfold BoxT; decide
/-- bytes that lie outside of a file system -/
def Out (M : FsMem) (A : Option Addr) (d : List UInt8) : Prop := 0 < d.length → ∀ a, A = some a → a.block ∉ M.own
theorem box_cell {w : World} {b : Nat} {v : Value} {t : TypeId} (h : w.heap[b]? = some (.cells #[v] t (0, 0))) : w.cell? ⟨b, 0, none⟩ = some v := (blk_cells h).1 0
set_option maxHeartbeats 4000000 in
set_option maxRecDepth 10000 in
theorem write1_any (w : World) (M : FsMem) (S : FsSt) (h : FsAt w M S) (name : ByteArray) (d : List UInt8) (A : Option Addr) (c : Nat) (n : Int) (b0 b1 b2 b3 : Nat)
    (h0 : w.heap[b0]? = some (.cells #[.pointer (some ⟨M.fb, 0, none⟩)] 24 (0, 0))) (h1 : w.heap[b1]? = some (.cells #[.slice A d.length c] 22 (0, 0)))
    (h2 : w.heap[b2]? = some (.cells #[.int .i64 n] 3 (0, 0))) (h3 : w.heap[b3]? = some (.cells #[.string name] 9 (0, 0)))
    (hb : Bs w A c d) (ho : Out M A d) (hn : name.size ≤ 1048576) (hd : d.length ≤ 1099511627776) (hlast : S.last ≤ 1099511627776) (hord : ∀ e ∈ S.files, e.1 ≤ S.last)
    (hfl : S.files.length ≤ 1099511627776) (hz : -1099511627776 ≤ S.size ∧ S.size ≤ 1099511627776) (hnz : -1099511627776 ≤ n ∧ n ≤ 1099511627776) (hnm : Maps.size S.names ≤ 1099511627776) (hpl : S.pend.length ≤ 1099511627776) :
    Calls Tryd.prog 37 #[.pointer (some ⟨b0, 0, none⟩), .pointer (some ⟨b1, 0, none⟩), .pointer (some ⟨b2, 0, none⟩), .pointer (some ⟨b3, 0, none⟩)] w (ChsPost w M (S.write1 name d n)) := by
  obtain ⟨h4, f4⟩ := h.put (S' := { S with last := S.last + 1 }) 2 (.int .i64 ((S.last : Int) + 1)) rfl rfl rfl rfl rfl
  have k0 := box_cell h0
  have c2 : w.cell? ⟨M.fb, 2, none⟩ = some (.int .i64 (S.last : Nat)) := (h.cell 2 _ rfl).1
  have f2 : w.frozen? ⟨M.fb, 2, none⟩ = false := (blk_cells h.blk).2.1 2
  have h0' := box_keptT f4 h0 boxFS
  have k0' := box_cell h0'
  have c2' : (w.setCell ⟨M.fb, 2, none⟩ (.int .i64 ((S.last : Int) + 1))).cell? ⟨M.fb, 2, none⟩ = some (.int .i64 ((S.last : Int) + 1)) := (h4.cell 2 _ rfl).1
  go_enter Tryd.func37, Tryd.ntmps37
  go_wp2_with fail
  have hB1 : Below (w.setCell ⟨M.fb, 2, none⟩ (.int .i64 ((S.last : Int) + 1))).heap.size (w.setCell ⟨M.fb, 2, none⟩ (.int .i64 ((S.last : Int) + 1))) ((w.setCell ⟨M.fb, 2, none⟩ (.int .i64 ((S.last : Int) + 1))).alloc (.cells #[.int .i64 ((S.last : Int) + 1)] 3)) := (Below.refl _ _).alloc (Nat.le_refl _) _
  have HA := Lib.hid (h4.below hB1)
  have HG := Lib.hid ((Gr.own (M := M) f4).trans (Gr.of_below hB1))
  have keep : ∀ {b : Nat} {cs : Array Value} {t : TypeId}, BoxT t → w.heap[b]? = some (.cells cs t (0, 0)) → ((w.setCell ⟨M.fb, 2, none⟩ (.int .i64 ((S.last : Int) + 1))).alloc (.cells #[.int .i64 ((S.last : Int) + 1)] 3)).heap[b]? = some (.cells cs t (0, 0)) := fun {b cs t} ht hb => by
    have := box_keptT f4 hb ht
    exact (hB1.block b (lt_of_heap this)).trans this
  have H0 := Lib.hid (keep boxFS h0)
  have H1 := Lib.hid (keep boxBytes h1)
  have H2 := Lib.hid (keep boxInt h2)
  have H3 := Lib.hid (keep boxStr h3)
  have Hd := Lib.hid ((hb.out f4.fr fun hn a ha hh => ho hn a ha (by rw [List.mem_singleton.1 hh]; simp [FsMem.own])).keep (Cells.of_below hB1))
  have hnb : ((w.setCell ⟨M.fb, 2, none⟩ (.int .i64 ((S.last : Int) + 1))).alloc (.cells #[.int .i64 ((S.last : Int) + 1)] 3)).heap[w.heap.size]? = some (.cells #[.int .i64 ((S.last : Int) + 1)] 3 (0, 0)) := by
    have := heap_alloc_new (w.setCell ⟨M.fb, 2, none⟩ (.int .i64 ((S.last : Int) + 1))) (.cells #[.int .i64 ((S.last : Int) + 1)] 3)
    simpa using this
  have H5 := Lib.hid hnb
  have hns : M.fm < w.heap.size := h.lt _ (by simp [FsMem.own])
  generalize w.heap.size = nb at *
  generalize (w.setCell ⟨M.fb, 2, none⟩ (.int .i64 ((S.last : Int) + 1))).alloc (.cells #[.int .i64 ((S.last : Int) + 1)] 3) = w1 at *
  clear hB1 keep hnb h0 h1 h2 h3 hb h4 f4 k0 c2 f2 h0' k0' c2' h
  have d0 : w1.drew.cell? ⟨b0, 0, none⟩ = some (.pointer (some ⟨M.fb, 0, none⟩)) := box_cell H0.out
  have d1 : w1.drew.cell? ⟨b1, 0, none⟩ = some (.slice A d.length c) := box_cell H1.out
  have d5 : w1.drew.cell? ⟨nb, 0, none⟩ = some (.int .i64 ((S.last : Int) + 1)) := box_cell H5.out
  have d6 : w1.drew.cell? ⟨M.fb, 1, none⟩ = some (.map (some M.fm)) := (HA.out.cell 1 _ rfl).1
  with_reducible refine g_mix [(0, none), (1, none), (2, none), (3, none), (4, none), (5, none), (6, some false), (7, none), (8, some false), (9, some true)] (fun w' => (w'.cell? ⟨b0, 0, none⟩ = some (.pointer (some ⟨M.fb, 0, none⟩)) ∧ w'.cell? ⟨b1, 0, none⟩ = some (.slice A d.length c)) ∧ w'.cell? ⟨nb, 0, none⟩ = some (.int .i64 ((S.last : Int) + 1)) ∧ w'.cell? ⟨M.fb, 1, none⟩ = some (.map (some M.fm))) (by kernel_rfl) (by kernel_rfl) ?_
  intro OPS
  simp only [mixOf, nthO, consO]
  iterate 6 ((with_reducible refine m_val (v := ?_) ?_ ?_ ?_); rotate_left; (rintro _ ⟨⟨h1, h2⟩, h3, h4⟩; go_simp; first | done | rfl | (constructor <;> rfl)); exact ⟨⟨d0, d1⟩, d5, d6⟩)
  with_reducible refine m_one ?_
  refine l_call ?_ ((fresh_any d A c w1.drew (by omega) (Hd.out.keep fun _ _ h => h)).mono ?_)
  · go_simp
  rintro e w2 ⟨gd, rfl, hgd, hgs, hb2⟩
  have hb2' : Below w1.heap.size w1 w2 := ⟨hb2.os, hb2.tape, hb2.output, hb2.size, hb2.block⟩
  have hgs' : w1.heap.size ≤ gd := hgs
  have hc2 := Cells.of_below hb2'
  refine ⟨_, rfl, ?_⟩
  refine m_keep ⟨⟨hc2 _ _ d0, hc2 _ _ d1⟩, hc2 _ _ d5, hc2 _ _ d6⟩ ?_
  iterate 1 ((with_reducible refine m_val (v := ?_) ?_ ?_ ?_); rotate_left; (rintro _ ⟨⟨h1, h2⟩, h3, h4⟩; go_simp; first | done | rfl | (constructor <;> rfl)); exact ⟨⟨hc2 _ _ d0, hc2 _ _ d1⟩, hc2 _ _ d5, hc2 _ _ d6⟩)
  with_reducible refine m_one ?_
  iterate 1 (with_reducible refine l_val (v := ?_) (w' := ?_) ?_ ?_; rotate_left 2; (go_simp; first | done | rfl | (constructor <;> rfl)))
  refine m_keep ⟨⟨Cells.alloc _ _ _ _ (hc2 _ _ d0), Cells.alloc _ _ _ _ (hc2 _ _ d1)⟩, Cells.alloc _ _ _ _ (hc2 _ _ d5), Cells.alloc _ _ _ _ (hc2 _ _ d6)⟩ ?_
  with_reducible refine m_one ?_
  have hbw : Below w1.heap.size w1 (w2.alloc (.cells #[.slice (some ⟨gd, 0, none⟩) d.length d.length, .int .i64 0] 67)) := hb2'.alloc hb2'.size _
  have hgd2 : gd < w2.heap.size := lt_of_heap hgd
  refine wpList_mapUpdate_own _ rfl (.tmp 19) (.tmp 20) (.tmp 24) 59 rfl 3 64 intK Tryd.underlying59 RPtr M.fm S.files.length (fD S.files M.fl) ?_ (HA.out.below hbw).files (by unfold maxLen; omega) (.int .i64 ((S.last : Int) + 1)) (.pointer (some ⟨w2.heap.size, 0, none⟩)) (ik (S.last + 1)) ?_ ?_ (keyOf_int_mk (a := ((S.last + 1 : Nat) : Int)) Tryd.underlying3 (WalkArith.wf_i64 (n := ((S.last + 1 : Nat) : Int)) (by omega))) (nval w2.heap.size) [] (RPtr_some _) ?_
  · simp [Act.eval, Act.put]
  · simp [Act.eval, Act.put]
  · simp [Act.eval, Act.put]
  intro w3 hown3 hg3
  with_reducible refine m_last ?_
  with_reducible refine m_end ?_
  simp only [Act.put, List.setIfInBounds_toArray, List.set_cons_zero, List.set_cons_succ]
  have hfmlt : M.fm < w1.heap.size := HA.out.lt _ (by simp [FsMem.own])
  have hfr3 : Fr [M.fm] w1 w3 := (Fr.of_below hbw _).trans (Fr.of_grown hg3)
  have hblk : ∀ {k : Nat} {o : Obj}, (w2.alloc (.cells #[.slice (some ⟨gd, 0, none⟩) d.length d.length, .int .i64 0] 67)).heap[k]? = some o → w1.heap.size ≤ k → w3.heap[k]? = some o := fun {k o} hk hs => (hg3.block k (lt_of_heap hk) fun e => by cases e; omega).trans hk
  have hf1 := hblk (heap_alloc_new w2 (.cells #[.slice (some ⟨gd, 0, none⟩) d.length d.length, .int .i64 0] 67)) hb2'.size
  have hf2 := hblk ((((Below.refl w2.heap.size w2).alloc (Nat.le_refl _) _).block gd hgd2).trans hgd) hgs'
  obtain ⟨h6, g6⟩ := HA.out.filed (n := S.last + 1) (gf := w2.heap.size) (c := ⟨d, 0⟩) (v := .slice (some ⟨gd, 0, none⟩) d.length d.length) hfr3 hown3 (fun e he => by have := hord e he; omega)
    ⟨hf1, .inr ⟨gd, d.length, _, rfl, hf2, Nat.le_refl _, by unfold maxLen; omega, by simp [u8s], by
      rw [List.toList_toArray]
      exact List.take_of_length_le (by simp [u8s])⟩⟩ hb2'.size (fun b hb => by simp [Value.ownBlock] at hb; subst hb; exact ⟨hgs', by omega⟩)
  have hfm3 : Frm [M.fm] w1 w3 := ⟨hfr3, fun k hk _ => HA.out.mays k (by rw [List.mem_singleton.1 hk]; simp [FsMem.own])⟩
  have K0 := Lib.hid (box_keptT hfm3 H0.out boxFS)
  have K2 := Lib.hid (box_keptT hfm3 H2.out boxInt)
  have K3 := Lib.hid (box_keptT hfm3 H3.out boxStr)
  have K5 := Lib.hid (box_keptT hfm3 H5.out boxInt)
  have HG3 := Lib.hid (HG.out.trans g6)
  obtain ⟨M3, hM3⟩ : ∃ X, X = { M with fl := M.fl ++ [(w2.heap.size, Value.slice (some ⟨gd, 0, none⟩) d.length d.length)] } := ⟨_, rfl⟩
  rw [← hM3] at h6 HG3
  have hfb : M.fb = M3.fb := by rw [hM3]
  rw [hfb] at K0 ⊢
  have H6 := Lib.hid h6
  clear hbw hgd2 hown3 hg3 hfmlt hfr3 hblk hf1 hf2 g6 hfm3 hM3 h6 hgd hgs hb2 hb2' hgs' hc2 d0 d1 d5 d6 HA HG H0 H1 H2 H3 H5 Hd
  go_wp2_with fail
  obtain ⟨h7, f7⟩ := (show FsAt w3.drew M3 _ from H6.out.drewN 1).put (S' := { S with last := S.last + 1, files := S.files ++ [(S.last + 1, ⟨d, 0⟩)], size := S.size + n }) 5 (.int .i64 (S.size + n)) rfl rfl rfl rfl rfl
  have d0 : w3.drew.cell? ⟨b0, 0, none⟩ = some (.pointer (some ⟨M3.fb, 0, none⟩)) := box_cell K0.out
  have d2 : w3.drew.cell? ⟨b2, 0, none⟩ = some (.int .i64 n) := box_cell K2.out
  have d5 : w3.drew.cell? ⟨M3.fb, 5, none⟩ = some (.int .i64 S.size) := (H6.out.cell 5 _ rfl).1
  have f5 : w3.drew.frozen? ⟨M3.fb, 5, none⟩ = false := (blk_cells H6.out.blk).2.1 5
  have r1 : IntKind.i64.wrap (S.size + n) = S.size + n := by rw [IntKind.wrap_i64]; omega
  with_reducible refine g_mix [(0, none), (1, none), (2, none), (3, none), (4, none), (5, none), (6, none), (7, none), (8, some true)] (fun w' => (w'.cell? ⟨b0, 0, none⟩ = some (.pointer (some ⟨M3.fb, 0, none⟩)) ∧ w'.cell? ⟨b2, 0, none⟩ = some (.int .i64 n)) ∧ w'.cell? ⟨M3.fb, 5, none⟩ = some (.int .i64 S.size)) (by kernel_rfl) (by kernel_rfl) ?_
  intro OPS
  simp only [mixOf, nthO, consO]
  iterate 8 ((with_reducible refine m_val (v := ?_) ?_ ?_ ?_); rotate_left; (rintro _ ⟨⟨h1, h2⟩, h3⟩; (try simp only [r1]); go_simp; first | done | rfl | (constructor <;> rfl)); exact ⟨⟨d0, d2⟩, d5⟩)
  with_reducible refine m_one ?_
  with_reducible refine l_skip (w' := w3.drew.setCell ⟨M3.fb, 5, none⟩ (.int .i64 (S.size + n))) ?_ ?_
  · go_simp
  with_reducible refine m_last ?_
  with_reducible refine m_end ?_
  simp only [Act.put, List.setIfInBounds_toArray, List.set_cons_zero, List.set_cons_succ]
  have hg7 : Gr M w M3 (w3.drew.setCell ⟨M3.fb, 5, none⟩ (.int .i64 (S.size + n))) := HG3.out.trans ((show Gr M3 w3 M3 w3.drew from ⟨(Fr.refl _ _).drewN 1, fun _ h => .inl h, rfl⟩).trans (Gr.own f7))
  have L0 := Lib.hid (box_keptT f7 (show w3.drew.heap[b0]? = _ from K0.out) boxFS)
  have L3 := Lib.hid (box_keptT f7 (show w3.drew.heap[b3]? = _ from K3.out) boxStr)
  have L5 := Lib.hid (box_keptT f7 (show w3.drew.heap[nb]? = _ from K5.out) boxInt)
  have H7 := Lib.hid h7
  have G7 := Lib.hid hg7
  clear h7 hg7 f7 d0 d2 d5 f5 K0 K2 K3 K5 H6 HG3
  generalize w3.drew.setCell ⟨M3.fb, 5, none⟩ (.int .i64 (S.size + n)) = w4 at *
  go_wp2_with fail
  have d0 : w4.drew.cell? ⟨b0, 0, none⟩ = some (.pointer (some ⟨M3.fb, 0, none⟩)) := box_cell L0.out
  have d3 : w4.drew.cell? ⟨b3, 0, none⟩ = some (.string name) := box_cell L3.out
  have d5 : w4.drew.cell? ⟨nb, 0, none⟩ = some (.int .i64 ((S.last : Int) + 1)) := box_cell L5.out
  with_reducible refine g_mix [(0, none), (1, none), (3, none), (4, none), (2, some false), (5, some true)] (fun w' => (w'.cell? ⟨b0, 0, none⟩ = some (.pointer (some ⟨M3.fb, 0, none⟩)) ∧ w'.cell? ⟨b3, 0, none⟩ = some (.string name)) ∧ w'.cell? ⟨nb, 0, none⟩ = some (.int .i64 ((S.last : Int) + 1))) (by kernel_rfl) (by kernel_rfl) ?_
  intro OPS
  simp only [mixOf, nthO, consO]
  iterate 4 ((with_reducible refine m_val (v := ?_) ?_ ?_ ?_); rotate_left; (rintro _ ⟨⟨h1, h2⟩, h3⟩; go_simp; first | done | rfl | (constructor <;> rfl)); exact ⟨⟨d0, d3⟩, d5⟩)
  with_reducible refine m_one ?_
  refine l_call ?_ ((dir_any w4.drew name hn).mono ?_)
  · go_simp
  rintro e w5 ⟨rfl, rfl⟩
  refine ⟨_, rfl, ?_⟩
  refine m_keep ⟨⟨d0, d3⟩, d5⟩ ?_
  with_reducible refine m_one ?_
  have hch := changes_any w4.drew M3 { S with last := S.last + 1, files := S.files ++ [(S.last + 1, ⟨d, 0⟩)], size := S.size + n } (H7.out.drewN 1) ⟨dirOf name, S.last + 1, .put name (S.last + 1)⟩ (.func (.func 40) #[] #[.pointer (some ⟨nb, 0, none⟩), .pointer (some ⟨b3, 0, none⟩)])
    ⟨by unfold maxLen; omega, by omega, b3, nb, rfl, L3.out, L5.out⟩ (by unfold maxLen; simp only; omega) (by simp only; omega)
  refine l_call ?_ (hch.mono ?_)
  · go_simp
  rintro e w6 ⟨rfl, M6, h6, g6⟩
  refine ⟨_, rfl, ?_⟩
  with_reducible refine m_last ?_
  with_reducible refine m_end ?_
  simp only [Act.put, List.setIfInBounds_toArray, List.set_cons_zero, List.set_cons_succ]
  have Hfin : Hid (ChsPost w M (S.write1 name d n) (.returned (.tuple #[])) w6) := Lib.hid ⟨rfl, M6, h6, G7.out.trans ((show Gr M3 w4 M3 w4.drew from ⟨(Fr.refl _ _).drewN 1, fun _ h => .inl h, rfl⟩).trans g6)⟩
  clear h6 g6 hch d0 d3 d5 L0 L3 L5 H7 G7
  go_wp2_with fail
  go_end0
  exact Hfin.out
end Go.Proofs.YtaolddgnannojaaDoor
