/-
  SyncDir.
-/
import Derived.Test.YtaolddgnannojaaDoorFsSettle
namespace Go.Proofs.YtaolddgnannojaaDoor
open Go.RowKit Go.Maps

attribute [local go_sem] lt1 lt2 lt3 lt4 lt5 lt6

def noPend : Pend := ⟨⟨#[]⟩, 0, .del ⟨#[]⟩⟩
/-- how many changes there are up to the last one of a directory -/
def lastN (ps : List Pend) (dir : ByteArray) : Nat → Nat
  | 0 => 0
  | n + 1 => if (ps.getD n noPend).dir = dir then n + 1 else lastN ps dir n
theorem lastN_le (ps : List Pend) (dir : ByteArray) : ∀ n, lastN ps dir n ≤ n
  | 0 => Nat.le_refl _
  | n + 1 => by
    unfold lastN
    split
    · omega
    · have := lastN_le ps dir n; omega
def FsSt.syncdir1 (S : FsSt) (dir : ByteArray) : FsSt := S.settle (lastN S.pend dir S.pend.length)
def SdRel (S : FsSt) (dir : ByteArray) (w : World) (v : Value) (wr : World) : Prop :=
  ∃ n, n ≤ S.pend.length ∧ v = .int .i64 (n : Nat) ∧ lastN S.pend dir S.pend.length = lastN S.pend dir n ∧ ∃ d, wr = w.drewN d
set_option maxHeartbeats 4000000 in
set_option maxRecDepth 10000 in
theorem syncdir1_any (w : World) (M : FsMem) (S : FsSt) (K : Nat) (h : FsAt w M S) (hi : FsInv K S) (hK : K ≤ 1048576) (hr : DurRoom S S.pend.length) (dir : ByteArray) (b0 b1 : Nat)
    (h0 : w.heap[b0]? = some (.cells #[.pointer (some ⟨M.fb, 0, none⟩)] 24 (0, 0))) (h1 : w.heap[b1]? = some (.cells #[.string dir] 9 (0, 0))) :
    Calls Tryd.prog 48 #[.pointer (some ⟨b0, 0, none⟩), .pointer (some ⟨b1, 0, none⟩)] w (ChsPost w M (S.syncdir1 dir)) := by
  obtain ⟨P, hP⟩ : ∃ P, P = ChsPost w M (S.syncdir1 dir) := ⟨_, rfl⟩
  rw [← hP]
  have HP := Lib.hid hP
  have k0 := box_cell h0
  have H := Lib.hid h
  have X0 := Lib.hid h0
  have X1 := Lib.hid h1
  obtain ⟨cs, p1, p2⟩ := h.pend
  obtain ⟨Ap, cp, hpv, hsl, hz⟩ := row_slk p2
  have c6 : w.cell? ⟨M.fb, 6, none⟩ = some (.slice Ap S.pend.length cp) := by rw [← hpv]; exact (blk_cells h.blk).1 6
  have hpl := hi.pends
  have Hpv := Lib.hid hpv
  clear h h0 h1 hP p1 p2 hsl hz hpv
  go_enter Tryd.func48, Tryd.ntmps48
  go_wp2_with fail
  go_loopw [2] (fun v wr => SdRel S dir w v wr) (fun v _ => (intOf v).toNat)
  case atStart => exact ⟨_, Nat.le_refl _, rfl, rfl, 0, rfl⟩
  case round =>
    obtain ⟨n, hn, rfl, hlast, d, rfl⟩ := hrel
    cases n with
    | zero =>
      have e0 : ((0 : Nat) : Int) = 0 := rfl
      have d0 : (w.drewN d).drew.cell? ⟨b0, 0, none⟩ = some (.pointer (some ⟨M.fb, 0, none⟩)) := k0
      go_wp2_with fail
      with_reducible refine g_mixx [(0, 0), (1, 0), (2, 0), (3, 0), (4, 0), (5, 0), (6, 0), (7, 0), (8, 0), (9, 0), (10, 0), (11, 0), (12, 0), (13, 0), (14, 0)] (fun w' => w'.cell? ⟨b0, 0, none⟩ = some (.pointer (some ⟨M.fb, 0, none⟩))) 2 _ rfl (by kernel_rfl) (by kernel_rfl) ?_ ?_
      · exact d0
      intro OPS HD
      have HD : (OPS[2]?).bind (·.dst) = some 10 := HD
      simp only [mixX, nthO, consX]
      iterate 3 ((with_reducible refine x_val (v := ?_) ?_ ?_ ?_); rotate_left; (rintro _ h1; go_simp; first | done | rfl | (constructor <;> rfl)); exact d0)
      iterate 11 (with_reducible refine x_outg (c := false) HD (by go_simp) rfl d0 ?_)
      iterate 1 ((with_reducible refine x_val (v := ?_) ?_ ?_ ?_); rotate_left; (rintro _ h1; go_simp; first | done | rfl | (constructor <;> rfl)); exact d0)
      with_reducible refine x_end ?_
      simp only [Act.put, List.setIfInBounds_toArray, List.set_cons_zero, List.set_cons_succ]
      have Y0 : Hid ((w.drewN d).drew.heap[b0]? = some (.cells #[.pointer (some ⟨M.fb, 0, none⟩)] 24 (0, 0))) := X0
      have H1 : Hid (FsAt (w.drewN d).drew M S) := Lib.hid ((H.out.drewN d).drewN 1)
      have G1 : Hid (Gr M w M (w.drewN d).drew) := Lib.hid ((Gr.drewN M w d).trans (Gr.drewN M (w.drewN d) 1))
      clear d0 k0 c6
      generalize (w.drewN d).drew = w1 at *
      have k0 := box_cell Y0.out
      have hrr : DurRoom S 0 := fun k hk => hr k (by omega)
      have hst := settle_any w1 M S K H1.out hi hK 0 (by omega) hrr
      have Hst := Lib.hid hst
      clear hst hrr
      go_wp2_with fail
      refine Hst.out.mono ?_
      rintro e w2 ⟨rfl, M2, h2, g2⟩
      have Hfin : Hid (P (.returned (.tuple #[])) w2) := Lib.hid (by
        rw [HP.out]
        unfold FsSt.syncdir1
        rw [hlast]
        exact ⟨rfl, M2, h2, G1.out.trans g2⟩)
      clear h2 g2 Hst
      go_wp2_with fail
      go_end0
      exact Hfin.out
    | succ n =>
      obtain ⟨p, hp⟩ : ∃ p, S.pend[n]? = some p := ⟨_, List.getElem?_eq_getElem (by omega)⟩
      obtain ⟨g, c', v, hpe, e1, _, _, _⟩ := H.out.pend_at (k := n) (p := p) hp
      rw [Hpv.out] at hpe
      simp only [Value.slice.injEq, true_and] at hpe
      obtain ⟨hA, hcc⟩ := hpe
      subst hA
      clear hcc
      have hgd : S.pend.getD n noPend = p := by rw [List.getD_eq_getElem?_getD, hp]; rfl
      have e0 : ((n + 1 : Nat) : Int) = (n : Int) + 1 := by omega
      have r1 : IntKind.i64.wrap (n : Int) = n := by rw [IntKind.wrap_i64]; omega
      have r2 : (n : Int) < S.pend.length := by omega
      have d0 : (w.drewN d).drew.cell? ⟨b0, 0, none⟩ = some (.pointer (some ⟨M.fb, 0, none⟩)) := k0
      have d1 : (w.drewN d).drew.cell? ⟨b1, 0, none⟩ = some (.string dir) := box_cell X1.out
      have d6 : (w.drewN d).drew.cell? ⟨M.fb, 6, none⟩ = some (.slice (some ⟨g, 0, none⟩) S.pend.length cp) := c6
      have dp : (w.drewN d).drew.cell? ⟨g, n * 3, none⟩ = some (.string p.dir) := e1
      rw [e0]
      go_wp2_with fail
      with_reducible refine g_mixx [(0, 0), (1, 0), (2, 0), (3, 0), (4, 0), (5, 0), (6, 0), (7, 0), (8, 0), (9, 0), (10, 0), (11, 0), (12, 0), (13, 0), (14, 0)] (fun w' => (w'.cell? ⟨b0, 0, none⟩ = some (.pointer (some ⟨M.fb, 0, none⟩)) ∧ w'.cell? ⟨b1, 0, none⟩ = some (.string dir)) ∧ w'.cell? ⟨M.fb, 6, none⟩ = some (.slice (some ⟨g, 0, none⟩) S.pend.length cp) ∧ w'.cell? ⟨g, n * 3, none⟩ = some (.string p.dir)) 2 _ rfl (by kernel_rfl) (by kernel_rfl) ?_ ?_
      · exact ⟨⟨d0, d1⟩, d6, dp⟩
      intro OPS HD
      have HD : (OPS[2]?).bind (·.dst) = some 10 := HD
      simp only [mixX, nthO, consX]
      iterate 3 ((with_reducible refine x_val (v := ?_) ?_ ?_ ?_); rotate_left; (rintro _ ⟨⟨h1, h2⟩, h3, h4⟩; (try simp only [r1]); go_simp; first | done | rfl | (constructor <;> rfl)); exact ⟨⟨d0, d1⟩, d6, dp⟩)
      iterate 11 ((with_reducible refine x_valg (v := ?_) HD ?_ ?_ ?_ ?_); rotate_left; go_simp; (rintro _ ⟨⟨h1, h2⟩, h3, h4⟩; (try simp only [r1, r2]); go_simp; first | done | rfl | (constructor <;> rfl)); exact ⟨⟨d0, d1⟩, d6, dp⟩)
      iterate 1 ((with_reducible refine x_val (v := ?_) ?_ ?_ ?_); rotate_left; (rintro _ ⟨⟨h1, h2⟩, h3, h4⟩; go_simp; first | done | rfl | (constructor <;> rfl)); exact ⟨⟨d0, d1⟩, d6, dp⟩)
      with_reducible refine x_end ?_
      simp only [Act.put, List.setIfInBounds_toArray, List.set_cons_zero, List.set_cons_succ]
      clear d0 d1 d6 dp e1
      by_cases hd : p.dir = dir
      · have hq : (p.dir.toList == dir.toList) = true := by rw [hd]; simp
        have hln : lastN S.pend dir (n + 1) = n + 1 := by
          rw [lastN, hgd, if_pos hd]
        rw [hq]
        clear hq
        have Y0 : Hid ((w.drewN d).drew.heap[b0]? = some (.cells #[.pointer (some ⟨M.fb, 0, none⟩)] 24 (0, 0))) := X0
        have H1 : Hid (FsAt (w.drewN d).drew M S) := Lib.hid ((H.out.drewN d).drewN 1)
        have G1 : Hid (Gr M w M (w.drewN d).drew) := Lib.hid ((Gr.drewN M w d).trans (Gr.drewN M (w.drewN d) 1))
        clear k0 c6
        generalize (w.drewN d).drew = w1 at *
        have k0 := box_cell Y0.out
        have hrr : DurRoom S (n + 1) := fun k hk => hr k (by omega)
        have hst := settle_any w1 M S K H1.out hi hK (n + 1) hn hrr
        have Hst := Lib.hid hst
        clear hst hrr
        go_wp2_with fail
        refine Hst.out.mono ?_
        rintro e w2 ⟨rfl, M2, h2, g2⟩
        have Hfin : Hid (P (.returned (.tuple #[])) w2) := Lib.hid (by
          rw [HP.out]
          unfold FsSt.syncdir1
          rw [hlast, hln]
          exact ⟨rfl, M2, h2, G1.out.trans g2⟩)
        clear h2 g2 Hst
        go_wp2_with fail
        go_end0
        exact Hfin.out
      · have hq : (p.dir.toList == dir.toList) = false := by
          rw [beq_eq_false_iff_ne]
          intro e
          rw [toList_toL, toList_toL] at e
          exact hd (toL_inj e)
        have hln : lastN S.pend dir (n + 1) = lastN S.pend dir n := by
          rw [lastN, hgd, if_neg hd]
        rw [hq]
        clear hq
        have Hfin : Hid (SdRel S dir w (.int .i64 (n : Nat)) (w.drewN d).drew) := Lib.hid ⟨n, by omega, rfl, by rw [hlast, hln], d + 1, rfl⟩
        go_wp2_with fail
        go_roundw
        case rel => exact Hfin.out
        case measure => simp [intOf]
end Go.Proofs.YtaolddgnannojaaDoor
