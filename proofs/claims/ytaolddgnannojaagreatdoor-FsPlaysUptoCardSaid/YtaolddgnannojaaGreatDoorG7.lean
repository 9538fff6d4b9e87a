/-
  Write: what it does if it is not the write that fails.
  What always holds of a file system, plain; what its memory keeps of the rest.
  Bytes laid at the end of a file's bytes; a file that has turned.
-/
import Derived.Test.YtaolddgnannojaaGreatDoorG5
import Derived.Test.YtaolddgnannojaaGreatDoorFsValid
import Derived.ArgAppend
import Derived.Laws.AppendOwnNone
namespace Go.Proofs.YtaolddgnannojaaGreatDoor
open Go.RowKit Go.Maps

attribute [local go_sem] lt1 lt2 lt3 lt4 lt5 lt6

def FsSt.write1 (S : FsSt) (name : ByteArray) (d : List UInt8) (n : Int) : FsSt :=
  FsSt.changes { S with last := S.last + 1, files := S.files ++ [(S.last + 1, ⟨d, 0⟩)], size := S.size + n } ⟨dirOf name, S.last + 1, .put name (S.last + 1)⟩
theorem boxFS : BoxT 25 := by unfold BoxT; decide
theorem boxInt : BoxT 3 := by unfold BoxT; decide
theorem boxStr : BoxT 9 := by unfold BoxT; decide
theorem boxBytes : BoxT 29 := by unfold BoxT; decide
theorem boxFile : BoxT 55 := by unfold BoxT; decide
/-- bytes that lie outside of a file system -/
def Out (M : FsMem) (A : Option Addr) (d : List UInt8) : Prop := 0 < d.length → ∀ a, A = some a → a.block ∉ M.own
theorem box_cell {w : World} {b : Nat} {v : Value} {t : TypeId} (h : w.heap[b]? = some (.cells #[v] t (0, 0))) : w.cell? ⟨b, 0, none⟩ = some v := (blk_cells h).1 0
set_option maxHeartbeats 4000000 in
set_option maxRecDepth 10000 in
theorem write1_any (w : World) (M : FsMem) (S : FsSt) (h : FsAt w M S) (name : ByteArray) (d : List UInt8) (A : Option Addr) (c : Nat) (n : Int) (b0 b1 b2 b3 : Nat)
    (h0 : w.heap[b0]? = some (.cells #[.pointer (some ⟨M.fb, 0, none⟩)] 25 (0, 0))) (h1 : w.heap[b1]? = some (.cells #[.slice A d.length c] 29 (0, 0)))
    (h2 : w.heap[b2]? = some (.cells #[.int .i64 n] 3 (0, 0))) (h3 : w.heap[b3]? = some (.cells #[.string name] 9 (0, 0)))
    (hb : Bs w A c d) (ho : Out M A d) (hn : name.size ≤ 1048576) (hd : d.length ≤ 1099511627776) (hlast : S.last ≤ 1099511627776) (hord : ∀ e ∈ S.files, e.1 ≤ S.last)
    (hfl : S.files.length ≤ 1099511627776) (hz : -1099511627776 ≤ S.size ∧ S.size ≤ 1099511627776) (hnz : -1099511627776 ≤ n ∧ n ≤ 1099511627776) (hnm : Maps.size S.names ≤ 1099511627776) (hpl : S.pend.length ≤ 1099511627776) :
    Calls Tryz.prog 25 #[.pointer (some ⟨b0, 0, none⟩), .pointer (some ⟨b1, 0, none⟩), .pointer (some ⟨b2, 0, none⟩), .pointer (some ⟨b3, 0, none⟩)] w (ChsPost w M (S.write1 name d n)) := by
  obtain ⟨h4, f4⟩ := h.put (S' := { S with last := S.last + 1 }) 2 (.int .i64 ((S.last : Int) + 1)) rfl rfl rfl rfl rfl
  have k0 := box_cell h0
  have c2 : w.cell? ⟨M.fb, 2, none⟩ = some (.int .i64 (S.last : Nat)) := (h.cell 2 _ rfl).1
  have f2 : w.frozen? ⟨M.fb, 2, none⟩ = false := (blk_cells h.blk).2.1 2
  have h0' := box_keptT f4 h0 boxFS
  have k0' := box_cell h0'
  have c2' : (w.setCell ⟨M.fb, 2, none⟩ (.int .i64 ((S.last : Int) + 1))).cell? ⟨M.fb, 2, none⟩ = some (.int .i64 ((S.last : Int) + 1)) := (h4.cell 2 _ rfl).1
  go_enter Tryz.func25, Tryz.ntmps25
  go_wp2_with fail
  have hB1 : Below (w.setCell ⟨M.fb, 2, none⟩ (.int .i64 ((S.last : Int) + 1))).heap.size (w.setCell ⟨M.fb, 2, none⟩ (.int .i64 ((S.last : Int) + 1))) ((w.setCell ⟨M.fb, 2, none⟩ (.int .i64 ((S.last : Int) + 1))).alloc (.cells #[.int .i64 ((S.last : Int) + 1)] 3)) := (Below.refl _ _).alloc (Nat.le_refl _) _
  have HA := Lib.hid (h4.below hB1)
  have HG := Lib.hid ((Gr.own (M := M) f4).trans (Gr.of_below hB1))
  have keep : ∀ {b : Nat} {cs : Array Value} {t : TypeId}, BoxT t → w.heap[b]? = some (.cells cs t (0, 0)) → ((w.setCell ⟨M.fb, 2, none⟩ (.int .i64 ((S.last : Int) + 1))).alloc (.cells #[.int .i64 ((S.last : Int) + 1)] 3)).heap[b]? = some (.cells cs t (0, 0)) := fun {b cs t} ht hb => by
    have := box_keptT f4 hb ht
    exact (hB1.block b (lt_of_heap this)).trans this
  have H0 := Lib.hid (keep boxFS h0)
  have H1 := Lib.hid (keep boxBytes h1)
  have H2 := Lib.hid (keep boxInt h2)
  have H3 := Lib.hid (keep boxStr h3)
  have Hd := Lib.hid ((hb.out f4.fr fun hn a ha hh => ho hn a ha (by rw [List.mem_singleton.1 hh]; simp [FsMem.own])).keep (Cells.of_below hB1))
  have hnb : ((w.setCell ⟨M.fb, 2, none⟩ (.int .i64 ((S.last : Int) + 1))).alloc (.cells #[.int .i64 ((S.last : Int) + 1)] 3)).heap[w.heap.size]? = some (.cells #[.int .i64 ((S.last : Int) + 1)] 3 (0, 0)) := by
    have := heap_alloc_new (w.setCell ⟨M.fb, 2, none⟩ (.int .i64 ((S.last : Int) + 1))) (.cells #[.int .i64 ((S.last : Int) + 1)] 3)
    simpa using this
  have H5 := Lib.hid hnb
  have hns : M.fm < w.heap.size := h.lt _ (by simp [FsMem.own])
  generalize w.heap.size = nb at *
  generalize (w.setCell ⟨M.fb, 2, none⟩ (.int .i64 ((S.last : Int) + 1))).alloc (.cells #[.int .i64 ((S.last : Int) + 1)] 3) = w1 at *
  clear hB1 keep hnb h0 h1 h2 h3 hb h4 f4 k0 c2 f2 h0' k0' c2' h
  have d0 : w1.drew.cell? ⟨b0, 0, none⟩ = some (.pointer (some ⟨M.fb, 0, none⟩)) := box_cell H0.out
  have d1 : w1.drew.cell? ⟨b1, 0, none⟩ = some (.slice A d.length c) := box_cell H1.out
  have d5 : w1.drew.cell? ⟨nb, 0, none⟩ = some (.int .i64 ((S.last : Int) + 1)) := box_cell H5.out
  have d6 : w1.drew.cell? ⟨M.fb, 1, none⟩ = some (.map (some M.fm)) := (HA.out.cell 1 _ rfl).1
  with_reducible refine g_mix [(0, none), (1, none), (2, none), (3, none), (4, none), (5, none), (6, some false), (7, none), (8, some false), (9, some true)] (fun w' => (w'.cell? ⟨b0, 0, none⟩ = some (.pointer (some ⟨M.fb, 0, none⟩)) ∧ w'.cell? ⟨b1, 0, none⟩ = some (.slice A d.length c)) ∧ w'.cell? ⟨nb, 0, none⟩ = some (.int .i64 ((S.last : Int) + 1)) ∧ w'.cell? ⟨M.fb, 1, none⟩ = some (.map (some M.fm))) (by kernel_rfl) (by kernel_rfl) ?_
  intro OPS
  simp only [mixOf, nthO, consO]
  iterate 6 ((with_reducible refine m_val (v := ?_) ?_ ?_ ?_); rotate_left; (rintro _ ⟨⟨h1, h2⟩, h3, h4⟩; go_simp; first | done | rfl | (constructor <;> rfl)); exact ⟨⟨d0, d1⟩, d5, d6⟩)
  with_reducible refine m_one ?_
  refine l_call ?_ ((fresh_any d A c w1.drew (by omega) (Hd.out.keep fun _ _ h => h)).mono ?_)
  · go_simp
  rintro e w2 ⟨gd, rfl, hgd, hgs, hb2⟩
  have hb2' : Below w1.heap.size w1 w2 := ⟨hb2.os, hb2.tape, hb2.output, hb2.size, hb2.block⟩
  have hgs' : w1.heap.size ≤ gd := hgs
  have hc2 := Cells.of_below hb2'
  refine ⟨_, rfl, ?_⟩
  refine m_keep ⟨⟨hc2 _ _ d0, hc2 _ _ d1⟩, hc2 _ _ d5, hc2 _ _ d6⟩ ?_
  iterate 1 ((with_reducible refine m_val (v := ?_) ?_ ?_ ?_); rotate_left; (rintro _ ⟨⟨h1, h2⟩, h3, h4⟩; go_simp; first | done | rfl | (constructor <;> rfl)); exact ⟨⟨hc2 _ _ d0, hc2 _ _ d1⟩, hc2 _ _ d5, hc2 _ _ d6⟩)
  with_reducible refine m_one ?_
  iterate 1 (with_reducible refine l_val (v := ?_) (w' := ?_) ?_ ?_; rotate_left 2; (go_simp; first | done | rfl | (constructor <;> rfl)))
  refine m_keep ⟨⟨Cells.alloc _ _ _ _ (hc2 _ _ d0), Cells.alloc _ _ _ _ (hc2 _ _ d1)⟩, Cells.alloc _ _ _ _ (hc2 _ _ d5), Cells.alloc _ _ _ _ (hc2 _ _ d6)⟩ ?_
  with_reducible refine m_one ?_
  have hbw : Below w1.heap.size w1 (w2.alloc (.cells #[.slice (some ⟨gd, 0, none⟩) d.length d.length, .int .i64 0] 58)) := hb2'.alloc hb2'.size _
  have hgd2 : gd < w2.heap.size := lt_of_heap hgd
  refine wpList_mapUpdate_own _ rfl (.tmp 19) (.tmp 20) (.tmp 24) 45 rfl 3 55 intK Tryz.underlying45 RPtr M.fm S.files.length (fD S.files M.fl) ?_ (HA.out.below hbw).files (by unfold maxLen; omega) (.int .i64 ((S.last : Int) + 1)) (.pointer (some ⟨w2.heap.size, 0, none⟩)) (ik (S.last + 1)) ?_ ?_ (keyOf_int_mk (a := ((S.last + 1 : Nat) : Int)) Tryz.underlying3 (WalkArith.wf_i64 (n := ((S.last + 1 : Nat) : Int)) (by omega))) (nval w2.heap.size) [] (RPtr_some _) ?_
  · simp [Act.eval, Act.put]
  · simp [Act.eval, Act.put]
  · simp [Act.eval, Act.put]
  intro w3 hown3 hg3
  with_reducible refine m_last ?_
  with_reducible refine m_end ?_
  simp only [Act.put, List.setIfInBounds_toArray, List.set_cons_zero, List.set_cons_succ]
  have hfmlt : M.fm < w1.heap.size := HA.out.lt _ (by simp [FsMem.own])
  have hfr3 : Fr [M.fm] w1 w3 := (Fr.of_below hbw _).trans (Fr.of_grown hg3)
  have hblk : ∀ {k : Nat} {o : Obj}, (w2.alloc (.cells #[.slice (some ⟨gd, 0, none⟩) d.length d.length, .int .i64 0] 58)).heap[k]? = some o → w1.heap.size ≤ k → w3.heap[k]? = some o := fun {k o} hk hs => (hg3.block k (lt_of_heap hk) fun e => by cases e; omega).trans hk
  have hf1 := hblk (heap_alloc_new w2 (.cells #[.slice (some ⟨gd, 0, none⟩) d.length d.length, .int .i64 0] 58)) hb2'.size
  have hf2 := hblk ((((Below.refl w2.heap.size w2).alloc (Nat.le_refl _) _).block gd hgd2).trans hgd) hgs'
  obtain ⟨h6, g6⟩ := HA.out.filed (n := S.last + 1) (gf := w2.heap.size) (c := ⟨d, 0⟩) (v := .slice (some ⟨gd, 0, none⟩) d.length d.length) hfr3 hown3 (fun e he => by have := hord e he; omega)
    ⟨hf1, .inr ⟨gd, d.length, _, rfl, hf2, Nat.le_refl _, by unfold maxLen; omega, by simp [u8s], by
      rw [List.toList_toArray]
      exact List.take_of_length_le (by simp [u8s])⟩⟩ hb2'.size (fun b hb => by simp [Value.ownBlock] at hb; subst hb; exact ⟨hgs', by omega⟩)
  have hfm3 : Frm [M.fm] w1 w3 := ⟨hfr3, fun k hk _ => HA.out.mays k (by rw [List.mem_singleton.1 hk]; simp [FsMem.own])⟩
  have K0 := Lib.hid (box_keptT hfm3 H0.out boxFS)
  have K2 := Lib.hid (box_keptT hfm3 H2.out boxInt)
  have K3 := Lib.hid (box_keptT hfm3 H3.out boxStr)
  have K5 := Lib.hid (box_keptT hfm3 H5.out boxInt)
  have HG3 := Lib.hid (HG.out.trans g6)
  obtain ⟨M3, hM3⟩ : ∃ X, X = { M with fl := M.fl ++ [(w2.heap.size, Value.slice (some ⟨gd, 0, none⟩) d.length d.length)] } := ⟨_, rfl⟩
  rw [← hM3] at h6 HG3
  have hfb : M.fb = M3.fb := by rw [hM3]
  rw [hfb] at K0 ⊢
  have H6 := Lib.hid h6
  clear hbw hgd2 hown3 hg3 hfmlt hfr3 hblk hf1 hf2 g6 hfm3 hM3 h6 hgd hgs hb2 hb2' hgs' hc2 d0 d1 d5 d6 HA HG H0 H1 H2 H3 H5 Hd
  go_wp2_with fail
  obtain ⟨h7, f7⟩ := (show FsAt w3.drew M3 _ from H6.out.drewN 1).put (S' := { S with last := S.last + 1, files := S.files ++ [(S.last + 1, ⟨d, 0⟩)], size := S.size + n }) 5 (.int .i64 (S.size + n)) rfl rfl rfl rfl rfl
  have d0 : w3.drew.cell? ⟨b0, 0, none⟩ = some (.pointer (some ⟨M3.fb, 0, none⟩)) := box_cell K0.out
  have d2 : w3.drew.cell? ⟨b2, 0, none⟩ = some (.int .i64 n) := box_cell K2.out
  have d5 : w3.drew.cell? ⟨M3.fb, 5, none⟩ = some (.int .i64 S.size) := (H6.out.cell 5 _ rfl).1
  have f5 : w3.drew.frozen? ⟨M3.fb, 5, none⟩ = false := (blk_cells H6.out.blk).2.1 5
  have r1 : IntKind.i64.wrap (S.size + n) = S.size + n := by rw [IntKind.wrap_i64]; omega
  with_reducible refine g_mix [(0, none), (1, none), (2, none), (3, none), (4, none), (5, none), (6, none), (7, none), (8, some true)] (fun w' => (w'.cell? ⟨b0, 0, none⟩ = some (.pointer (some ⟨M3.fb, 0, none⟩)) ∧ w'.cell? ⟨b2, 0, none⟩ = some (.int .i64 n)) ∧ w'.cell? ⟨M3.fb, 5, none⟩ = some (.int .i64 S.size)) (by kernel_rfl) (by kernel_rfl) ?_
  intro OPS
  simp only [mixOf, nthO, consO]
  iterate 8 ((with_reducible refine m_val (v := ?_) ?_ ?_ ?_); rotate_left; (rintro _ ⟨⟨h1, h2⟩, h3⟩; (try simp only [r1]); go_simp; first | done | rfl | (constructor <;> rfl)); exact ⟨⟨d0, d2⟩, d5⟩)
  with_reducible refine m_one ?_
  with_reducible refine l_skip (w' := w3.drew.setCell ⟨M3.fb, 5, none⟩ (.int .i64 (S.size + n))) ?_ ?_
  · go_simp
  with_reducible refine m_last ?_
  with_reducible refine m_end ?_
  simp only [Act.put, List.setIfInBounds_toArray, List.set_cons_zero, List.set_cons_succ]
  have hg7 : Gr M w M3 (w3.drew.setCell ⟨M3.fb, 5, none⟩ (.int .i64 (S.size + n))) := HG3.out.trans ((show Gr M3 w3 M3 w3.drew from ⟨(Fr.refl _ _).drewN 1, fun _ h => .inl h, rfl⟩).trans (Gr.own f7))
  have L0 := Lib.hid (box_keptT f7 (show w3.drew.heap[b0]? = _ from K0.out) boxFS)
  have L3 := Lib.hid (box_keptT f7 (show w3.drew.heap[b3]? = _ from K3.out) boxStr)
  have L5 := Lib.hid (box_keptT f7 (show w3.drew.heap[nb]? = _ from K5.out) boxInt)
  have H7 := Lib.hid h7
  have G7 := Lib.hid hg7
  clear h7 hg7 f7 d0 d2 d5 f5 K0 K2 K3 K5 H6 HG3
  generalize w3.drew.setCell ⟨M3.fb, 5, none⟩ (.int .i64 (S.size + n)) = w4 at *
  go_wp2_with fail
  have d0 : w4.drew.cell? ⟨b0, 0, none⟩ = some (.pointer (some ⟨M3.fb, 0, none⟩)) := box_cell L0.out
  have d3 : w4.drew.cell? ⟨b3, 0, none⟩ = some (.string name) := box_cell L3.out
  have d5 : w4.drew.cell? ⟨nb, 0, none⟩ = some (.int .i64 ((S.last : Int) + 1)) := box_cell L5.out
  with_reducible refine g_mix [(0, none), (1, none), (3, none), (4, none), (2, some false), (5, some true)] (fun w' => (w'.cell? ⟨b0, 0, none⟩ = some (.pointer (some ⟨M3.fb, 0, none⟩)) ∧ w'.cell? ⟨b3, 0, none⟩ = some (.string name)) ∧ w'.cell? ⟨nb, 0, none⟩ = some (.int .i64 ((S.last : Int) + 1))) (by kernel_rfl) (by kernel_rfl) ?_
  intro OPS
  simp only [mixOf, nthO, consO]
  iterate 4 ((with_reducible refine m_val (v := ?_) ?_ ?_ ?_); rotate_left; (rintro _ ⟨⟨h1, h2⟩, h3⟩; go_simp; first | done | rfl | (constructor <;> rfl)); exact ⟨⟨d0, d3⟩, d5⟩)
  with_reducible refine m_one ?_
  refine l_call ?_ ((dir_any w4.drew name hn).mono ?_)
  · go_simp
  rintro e w5 ⟨rfl, rfl⟩
  refine ⟨_, rfl, ?_⟩
  refine m_keep ⟨⟨d0, d3⟩, d5⟩ ?_
  with_reducible refine m_one ?_
  have hch := changes_any w4.drew M3 { S with last := S.last + 1, files := S.files ++ [(S.last + 1, ⟨d, 0⟩)], size := S.size + n } (H7.out.drewN 1) ⟨dirOf name, S.last + 1, .put name (S.last + 1)⟩ (.func (.func 28) #[] #[.pointer (some ⟨nb, 0, none⟩), .pointer (some ⟨b3, 0, none⟩)])
    ⟨by unfold maxLen; omega, by omega, b3, nb, rfl, L3.out, L5.out⟩ (by unfold maxLen; simp only; omega) (by simp only; omega)
  refine l_call ?_ (hch.mono ?_)
  · go_simp
  rintro e w6 ⟨rfl, M6, h6, g6⟩
  refine ⟨_, rfl, ?_⟩
  with_reducible refine m_last ?_
  with_reducible refine m_end ?_
  simp only [Act.put, List.setIfInBounds_toArray, List.set_cons_zero, List.set_cons_succ]
  have Hfin : Hid (ChsPost w M (S.write1 name d n) (.returned (.tuple #[])) w6) := Lib.hid ⟨rfl, M6, h6, G7.out.trans ((show Gr M3 w4 M3 w4.drew from ⟨(Fr.refl _ _).drewN 1, fun _ h => .inl h, rfl⟩).trans g6)⟩
  clear h6 g6 hch d0 d3 d5 L0 L3 L5 H7 G7
  go_wp2_with fail
  go_end0
  exact Hfin.out
end Go.Proofs.YtaolddgnannojaaGreatDoor
namespace Go.Proofs.YtaolddgnannojaaGreatDoor
open Go.RowKit Go.Maps

attribute [local go_sem] lt1 lt2 lt3 lt4 lt5 lt6

/-- a map's numbers have files, its names are short -/
structure NamesOk (S : FsSt) (D : Dm) (K : Nat) : Prop where
  size : Maps.size D ≤ K
  short : ∀ s : ByteArray, nget D s ≠ 0 → s.size ≤ 1048576
  has : ∀ s : ByteArray, nget D s ≠ 0 → ∃ i, S.idx (nget D s) = some i
  most : ∀ s : ByteArray, nget D s ≤ K
def Chg.ok (S : FsSt) (K : Nat) : Chg → Nat → Prop
  | .put s k, n => s.size ≤ 1048576 ∧ k ≤ K ∧ n = k ∧ ∃ i, S.idx k = some i
  | .move s s' k, n => s.size ≤ 1048576 ∧ s'.size ≤ 1048576 ∧ k ≤ K ∧ n = k ∧ ∃ i, S.idx k = some i
  | .del s, n => s.size ≤ 1048576 ∧ n = 0
structure FsInv (K : Nat) (S : FsSt) : Prop where
  quota : S.quota ≤ 67108864
  last : S.last ≤ K
  ord : (S.files.map (·.1)).Pairwise (· < ·)
  rng : ∀ e ∈ S.files, 1 ≤ e.1 ∧ e.1 ≤ S.last
  many : S.files.length ≤ K
  sy : ∀ e ∈ S.files, e.2.sy ≤ e.2.d.length ∧ e.2.d.length ≤ K
  names : NamesOk S S.names K
  dur : NamesOk S S.dur K
  pends : S.pend.length ≤ K
  pend : ∀ p ∈ S.pend, p.chg.ok S K p.file
  size : -((K : Int) * K) ≤ S.size ∧ S.size ≤ K * K
  steps : S.steps ≤ K
  armed : S.armed ≤ 9223372036854775807
theorem FsInv.size' {K : Nat} {S : FsSt} (h : FsInv K S) (hK : K ≤ 1048576) : -1099511627776 ≤ S.size ∧ S.size ≤ 1099511627776 := by
  have h1 := h.size
  have h2 : K * K ≤ 1099511627776 := Nat.mul_le_mul hK hK
  rw [← Int.natCast_mul] at h1
  omega
/-! ### what lies outside -/
theorem Gr.maxL {M M' : FsMem} {w w' : World} (h : Gr M w M' w') (hm : MaxL w) (hg : 0 ∉ M.own) : MaxL w' ∧ 0 ∉ M'.own := by
  obtain ⟨m, hm⟩ := hm
  have hl := World.block_lt_of_cell? w ⟨0, 0, none⟩ hm
  refine ⟨⟨m, (World.cell?_of_block (w := w) (w' := w') (a := ⟨0, 0, none⟩) (h.fr.block _ hl hg)).trans hm⟩, fun hh => ?_⟩
  rcases h.new _ hh with h1 | h1
  · exact hg h1
  · have : 0 < w.heap.size := hl
    omega
theorem Out.gr {M M' : FsMem} {w w' : World} {A : Option Addr} {c : Nat} {d : List UInt8} (h : Out M A d) (hg : Gr M w M' w') (hb : Bs w A c d) : Out M' A d ∧ Bs w' A c d :=
  ⟨fun hn a ha hh => by
    rcases hg.new _ hh with h1 | h1
    · exact h hn a ha h1
    · obtain ⟨b, o, hA, hc⟩ := hb.cells hn
      rw [ha] at hA
      cases hA
      have := World.block_lt_of_cell? w ⟨b, o + 0, none⟩ ((hc 0 (by omega)).trans (u8s_at hn))
      simp only at this h1
      omega, hb.out hg.fr h⟩
def FsSt.lenAt (S : FsSt) (i : Nat) : Nat := ((S.files.getD i (0, ⟨[], 0⟩)).2.d).length
theorem FsAt.fileAt {w : World} {M : FsMem} {S : FsSt} (h : FsAt w M S) {i : Nat} (hi : i < S.files.length) : FileAt w (S.files.getD i (0, ⟨[], 0⟩)) (M.fl.getD i (0, undef)) := by
  have hl := h.each.length
  have h1 : S.files[i]? = some (S.files.getD i (0, ⟨[], 0⟩)) := by rw [List.getD_eq_getElem?_getD, List.getElem?_eq_getElem hi]; rfl
  have h2 : M.fl[i]? = some (M.fl.getD i (0, undef)) := by rw [List.getD_eq_getElem?_getD, List.getElem?_eq_getElem (by omega)]; rfl
  exact All2.at2 h.each h1 h2
theorem FsSt.idx_lt {S : FsSt} {n i : Nat} (h : S.idx n = some i) : i < S.files.length := by
  unfold FsSt.idx at h
  rw [List.findIdx?_eq_some_iff_getElem] at h
  exact h.1
theorem FsSt.idx_at {S : FsSt} {n i : Nat} (h : S.idx n = some i) : (S.files.getD i (0, ⟨[], 0⟩)).1 = n := by
  have hl := S.idx_lt h
  unfold FsSt.idx at h
  rw [List.findIdx?_eq_some_iff_getElem] at h
  have := h.2.1
  rw [List.getD_eq_getElem?_getD, List.getElem?_eq_getElem hl]
  simpa using this
theorem data_form {w : World} {v : Value} {d : List UInt8} (h : DataAt w v d) : ∃ A cap, v = .slice A d.length cap := by
  rcases h with ⟨rfl, rfl⟩ | ⟨g, cap, cur, rfl, _⟩
  · exact ⟨none, 0, rfl⟩
  · exact ⟨_, _, rfl⟩
theorem FsInv.lenAt {K : Nat} {S : FsSt} (h : FsInv K S) (i : Nat) : S.lenAt i ≤ K := by
  unfold FsSt.lenAt
  by_cases hi : i < S.files.length
  · rw [List.getD_eq_getElem?_getD, List.getElem?_eq_getElem hi]
    exact (h.sy _ (List.getElem_mem hi)).2
  · rw [List.getD_eq_getElem?_getD, List.getElem?_eq_none (by omega)]
    exact Nat.zero_le _
theorem FsInv.name_le {K : Nat} {S : FsSt} (h : FsInv K S) (hK : K ≤ 1048576) (s : ByteArray) : nget S.names s ≤ 9223372036854775807 := by
  have := h.names.most s
  omega
end Go.Proofs.YtaolddgnannojaaGreatDoor
namespace Go.Proofs.YtaolddgnannojaaGreatDoor
open Go.RowKit Go.Maps

attribute [local go_sem] lt1 lt2 lt3 lt4 lt5 lt6

def putAll : Array Value → Nat → List Value → Array Value
  | cs, _, [] => cs
  | cs, o, v :: r => putAll (cs.setIfInBounds o v) (o + 1) r
theorem heap_setCells_at {b : Nat} {t : TypeId} : ∀ (vs : List Value) (o : Nat) {w : World} {cs : Array Value}, w.heap[b]? = some (.cells cs t (0, 0)) → (w.setCells b o vs).heap[b]? = some (.cells (putAll cs o vs) t (0, 0))
  | [], _, _, _, h => h
  | v :: r, o, _, _, h => heap_setCells_at r (o + 1) (heap_setCell_at h o v)
theorem putAll_size : ∀ (vs : List Value) (cs : Array Value) (o : Nat), (putAll cs o vs).size = cs.size
  | [], _, _ => rfl
  | v :: r, cs, o => by
    unfold putAll
    rw [putAll_size r]
    simp
theorem set_take (v : Value) : ∀ (l : List Value) (o : Nat), o < l.length → (l.set o v).take (o + 1) = l.take o ++ [v]
  | [], o, h => by simp at h
  | x :: l, 0, _ => by simp
  | x :: l, o + 1, h => by
    have := set_take v l o (by simpa using h)
    simp [this]
theorem putAll_take : ∀ (vs : List Value) (cs : Array Value) (o : Nat), o + vs.length ≤ cs.size → (putAll cs o vs).toList.take (o + vs.length) = cs.toList.take o ++ vs
  | [], cs, o, _ => by simp [putAll]
  | v :: r, cs, o, h => by
    simp only [List.length_cons] at h
    unfold putAll
    have e : o + (v :: r).length = (o + 1) + r.length := by simp only [List.length_cons]; omega
    rw [e, putAll_take r _ _ (by simp; omega)]
    have h2 : (cs.setIfInBounds o v).toList.take (o + 1) = cs.toList.take o ++ [v] := by
      rw [Array.toList_setIfInBounds]
      exact set_take _ _ _ (by simp only [Array.length_toList]; omega)
    rw [h2]
    simp
theorem Fr.setCells {S : List Nat} {b : Nat} (hb : b ∈ S) : ∀ (vs : List Value) (o : Nat) (w : World), Fr S w (w.setCells b o vs)
  | [], _, w => Fr.refl S w
  | v :: r, o, w => (Fr.setCell S w ⟨b, o, none⟩ v hb).trans (Fr.setCells hb r (o + 1) _)
theorem DataAt.cells {w : World} {g : Nat} {d : List UInt8} {cur : Array Value} (hg : w.heap[g]? = some (.cells cur 5 (0, 0))) (ht : cur.toList.take d.length = u8s d) : ∀ j u, (u8s d)[j]? = some u → w.cell? ⟨g, 0 + j, none⟩ = some u := by
  intro j u hj
  have hjl : j < d.length := by
    have := List.getElem?_eq_some_iff.1 hj
    obtain ⟨h, _⟩ := this
    simpa [u8s] using h
  rw [Nat.zero_add, (blk_cells hg).1 j, ← hj, ← ht, List.getElem?_take, if_pos hjl]
  simp
/-- bytes laid at the end -/
theorem append_data {w : World} {ops : Array Oper} {rest : List Oper} {o : Oper} {a : Act} {Q : Exit → Act → World → Prop} (hgd : o.guard = none) (s x : Operand)
    (ho : o.op = .call { callee := .builtin .append, args := #[s, x], argTypes := #[29, 29] }) (v : Value) (d0 : List UInt8) (hs : a.eval s = v) (hv : DataAt w v d0)
    (A : Option Addr) (c : Nat) (d : List UInt8) (hx : a.eval x = .slice A d.length c) (hd : Bs w A c d) (hb : d0.length + d.length ≤ 140737488355328)
    (h : ∀ v' w', DataAt w' v' (d0 ++ d) → Fr v.ownBlock.toList w w' → (v'.ownBlock = v.ownBlock ∨ ∀ b, v'.ownBlock = some b → w.heap.size ≤ b) → wpList Tryz.prog ops Q rest (a.put o.dst v') w') : wpList Tryz.prog ops Q (o :: rest) a w := by
  obtain ⟨i0, hi0, hz0, hz1, hz2⟩ := info_parts infoU8
  cases A with
  | none =>
    obtain ⟨h0, rfl⟩ := hd.nil rfl
    have hdn : d = [] := List.eq_nil_of_length_eq_zero h0
    subst hdn
    have hrun : (Builtin.append_ #[29, 29] o.type #[v, .slice none 0 0]).run Tryz.prog w = .ok v w := by
      rcases hv with ⟨rfl, _⟩ | ⟨g, cap, cur, rfl, _, hnc, _⟩
      · simp [Builtin.append_, run_underlying Tryz.underlying29, sizeOf, typeInfo, hi0, Builtin.lenOf, Builtin.firstCells]
      · simp [Builtin.append_, run_underlying Tryz.underlying29, sizeOf, typeInfo, hi0, Builtin.lenOf, Builtin.firstCells, hnc, storeCells]
    refine wpList_plain hgd fun K hK => ?_
    unfold Oper.wp
    simp only [List.length_nil] at hx
    simp [execOp, ho, resolve, invoke, builtin, hs, hx, hrun, Result.andThen]
    exact hK _ _ (h v w (by simpa using hv) (Fr.refl _ _) (.inl rfl))
  | some ad =>
    have hnews : ∀ j u, (u8s d)[j]? = some u → w.cell? (ad.add j) = some u := fun j u hu => by
      by_cases hdn : d = []
      · subst hdn; simp [u8s] at hu
      obtain ⟨b, of, hab, hc⟩ := hd.cells (List.length_pos_iff.2 hdn)
      cases hab
      have hj := (List.getElem?_eq_some_iff.1 hu).1
      rw [Addr.add_lit]
      exact (hc j (by simpa [u8s] using hj)).trans hu
    have grow : ∀ v' w', w'.ownsRow w.heap.size 5 1 v' (d0.length + d.length) (u8s d0 ++ u8s d) → w.grownBy w' none → wpList Tryz.prog ops Q rest (a.put o.dst v') w' := fun v' w' hown hgr => by
      refine h v' w' ?_ (Fr.of_grown hgr |>.more (by simp)) (.inr fun b hb => ?_)
      · rcases hown.2 with ⟨rfl, he⟩ | ⟨g, cap, cur, rfl, hbg, hg, hnc, hcm, hsz, htk⟩
        · refine .inl ⟨rfl, ?_⟩
          have h1 : (d0 ++ d).length = 0 := by rw [List.length_append]; exact he
          exact List.eq_nil_of_length_eq_zero h1
        · refine .inr ⟨g, cap, cur, by rw [List.length_append], hg, by rw [List.length_append]; exact hnc, hcm, by omega, ?_⟩
          rw [List.length_append]
          rw [Nat.mul_one] at htk
          rw [htk]
          simp [u8s]
      · rcases hown.2 with ⟨rfl, he⟩ | ⟨g, cap, cur, rfl, hbg, hg, hnc, hcm, hsz, htk⟩
        · simp [Value.ownBlock] at hb
        · simp [Value.ownBlock] at hb
          omega
    have hml : d0.length + d.length ≤ maxLen := by unfold maxLen; omega
    rcases hv with ⟨rfl, rfl⟩ | ⟨g, cap, cur, rfl, hg, hnc, hcm, hcs, htk⟩
    · by_cases hdn : d = []
      · subst hdn
        have hrun : (Builtin.append_ #[29, 29] o.type #[.slice none 0 0, .slice (some ad) 0 c]).run Tryz.prog w = .ok (.slice none 0 0) w := by
          have hfc := run_firstCells_some (P := Tryz.prog) w i0.size 0 ad 0 c [] (by simp) (by simp)
          simp [Builtin.append_, run_underlying Tryz.underlying29, sizeOf, typeInfo, hi0, Builtin.lenOf, hfc]
        refine wpList_plain hgd fun K hK => ?_
        unfold Oper.wp
        simp only [List.length_nil] at hx
        simp [execOp, ho, resolve, invoke, builtin, hs, hx, hrun, Result.andThen]
        exact hK _ _ (h _ w (.inl ⟨rfl, rfl⟩) (Fr.refl _ _) (.inl rfl))
      · refine wpList_append_grows w hgd s x 29 ho 5 i0 (.int .u8 0) 1 1 Tryz.underlying29 hi0 hz0 hz1 hz2 rfl (by omega) none 0 0 [] hs (fun _ => ⟨rfl, rfl⟩) rfl (fun b hb => by cases hb) ad d.length c (u8s d) hx (by simp [u8s]) hnews (u8s_one d) (by have := List.length_pos_iff.2 hdn; omega) (by simpa using hml) (by simp at hb; omega) grow
    · refine wpList_append_arg w hgd s x 29 ho 5 i0 (.int .u8 0) 1 1 Tryz.underlying29 hi0 hz0 hz1 hz2 rfl (by omega) g 0 d0.length cap (u8s d0) hs (by simp [u8s]) (DataAt.cells hg htk) ad d.length c (u8s d) hx (by simp [u8s]) hnews (u8s_one d) (fun hr j hj => ?_) hml (by omega) (fun hr => ?_) (fun _ => grow)
      · have hj : j < d.length := by simpa [u8s] using hj
        constructor
        · rw [(blk_cells hg).1 (0 + d0.length * 1 + j)]
          rw [Array.getElem?_eq_getElem (by omega)]
          rfl
        · exact (blk_cells hg).2.1 _
      · have hst := heap_setCells_at (u8s d) (0 + d0.length * 1) hg
        refine h _ _ (.inr ⟨g, cap, _, by rw [List.length_append], hst, by rw [List.length_append]; exact hr, hcm, by rw [putAll_size]; exact hcs, ?_⟩) (Fr.setCells (by simp [Value.ownBlock]) _ _ _) (.inl rfl)
        have ht2 := putAll_take (u8s d) cur (0 + d0.length * 1) (by simp [u8s]; omega)
        have e : (d0 ++ d).length = 0 + d0.length * 1 + (u8s d).length := by simp [u8s]
        rw [e, ht2, Nat.zero_add, Nat.mul_one, htk]
        simp [u8s]
end Go.Proofs.YtaolddgnannojaaGreatDoor
