/-
  The reference: Crash.
  A drawn region with more than one guard, in a given order (as in the archive's texts).
-/
import Derived.Test.YtaolddgnannojaaGreatDoorFsRu2
import Derived.Test.YtaolddgnannojaaGreatDoorFsAbs
namespace Go.Proofs.YtaolddgnannojaaGreatDoor
open Go.RowKit Go.Maps

attribute [local go_sem] lt1 lt2 lt3 lt4 lt5 lt6

/-- so many nodes are cut -/
def cutTo (m : Nat) (N : List FileC) (k : Nat) : List FileC := (N.map (cutF m)).take k ++ N.drop k
theorem cutTo_zero (m : Nat) (N : List FileC) : cutTo m N 0 = N := by simp [cutTo]
theorem cutTo_all (m : Nat) (N : List FileC) : cutTo m N N.length = N.map (cutF m) := by simp [cutTo, List.take_of_length_le]
theorem cutTo_len (m : Nat) (N : List FileC) (k : Nat) (h : k ≤ N.length) : (cutTo m N k).length = N.length := by simp [cutTo]; omega
theorem cutTo_at (m : Nat) (N : List FileC) {k : Nat} (h : k < N.length) : (cutTo m N k).getD k noNd = N.getD k noNd := by
  unfold cutTo
  rw [List.getD_eq_getElem?_getD, List.getElem?_append_right (by simp only [List.length_take, List.length_map]; omega), List.getElem?_drop, List.getD_eq_getElem?_getD]
  have e : k - ((N.map (cutF m)).take k).length = 0 := by simp only [List.length_take, List.length_map]; omega
  rw [e, Nat.add_zero]
theorem cutTo_set (m : Nat) (N : List FileC) {k : Nat} (h : k < N.length) : (cutTo m N k).set k (cutF m (N.getD k noNd)) = cutTo m N (k + 1) := by
  unfold cutTo
  have hl : ((N.map (cutF m)).take k).length = k := by simp; omega
  rw [List.set_append_right _ _ (by omega), hl, Nat.sub_self, List.drop_eq_getElem_cons h, List.set_cons_zero, List.take_succ_eq_append_getElem (by simpa using h), List.getElem_map, List.append_assoc]
  simp [List.getD_eq_getElem?_getD, h]
def CrRel (w : World) (M : RMem) (R : RSt) (m : Nat) (iv : Value) (wr : World) : Prop :=
  ∃ (k : Nat) (M' : RMem), k ≤ R.nodes.length ∧ iv = .int .i64 k ∧ RAt wr M' { R with nodes := cutTo m R.nodes k } ∧ RGr M w M' wr
set_option maxHeartbeats 8000000 in
set_option maxRecDepth 100000 in
theorem rcrash_any (w : World) (M : RMem) (R : RSt) (h : RAt w M R) (hl : RLim R) (hs : ∀ j, ((R.pend.take j).foldl does R.safe).length ≤ 1048576) (hc : ∀ c ∈ R.pend, c.off.size ≠ 0 ∨ c.on.size ≠ 0) (hK : RInv 1048576 R) (n m : Int) (hn : n ≤ 9223372036854775807) (hm : m ≤ 9223372036854775807) :
    Calls Tryz.prog 41 #[.pointer (some ⟨M.rb, 0, none⟩), .int .i64 n, .int .i64 m] w (RPost w M (R.crash n m) (.tuple #[])) := by
  obtain ⟨P, hP⟩ : ∃ P, P = RPost w M (R.crash n m) (.tuple #[]) := ⟨_, rfl⟩
  rw [← hP]
  have HP := Lib.hid hP
  have H := Lib.hid h
  have HL := Lib.hid hl
  have HK := Lib.hid hK
  obtain ⟨q, hq⟩ : ∃ q : Nat, q = (min (max n 0) (R.pend.length : Int)).toNat := ⟨_, rfl⟩
  have hq2 : min (max n 0) (R.pend.length : Int) = (q : Int) := by omega
  have hpl := hl.pend
  have Hla := Lib.hid fun (wx : World) (hx : RAt wx M R) => rlasts_any wx M R hx hl.pend hs hc q (by omega)
  have Hq := Lib.hid hq
  have Hsf := Lib.hid hs
  obtain ⟨Ap, cp, hpv⟩ := own_formT h.pend
  have c4 : w.cell? ⟨M.rb, 4, none⟩ = some (.slice Ap R.pend.length cp) := by rw [← hpv]; exact h.cell 4 _ rfl
  clear hP h hl hs hc hK hq hpv
  go_enter Tryz.func41, Tryz.ntmps41
  go_wp2_with fail
  refine (Hla.out w H.out).mono ?_
  rintro e w1 ⟨rfl, M1, h1, g1⟩
  obtain ⟨rb, hrb⟩ : ∃ rb, rb = M.rb := ⟨_, rfl⟩
  rw [← hrb]
  have hrb1 : M1.rb = rb := by rw [g1.rb, hrb]
  obtain ⟨R1, hR1⟩ : ∃ R1, R1 = R.lasts q := ⟨_, rfl⟩
  rw [← hR1] at h1
  obtain ⟨Ap1, cp1, hpv⟩ := own_formT h1.pend
  have c4 : w1.cell? ⟨rb, 4, none⟩ = some (.slice Ap1 R1.pend.length cp1) := by rw [← hrb1, ← hpv]; exact h1.cell 4 _ rfl
  have f4 : w1.frozen? ⟨rb, 4, none⟩ = false := by rw [← hrb1]; exact (blk_cells h1.blk).2.1 4
  obtain ⟨h2, g2⟩ := h1.setPend (w2 := w1) ⟨rfl, rfl, rfl, Nat.le_refl _, fun _ _ _ => rfl⟩ (v := .slice none 0 0) (P := []) (World.ownsRow_nil _ _ _ _) (fun b hb => by simp [Value.ownBlock] at hb)
  have hsl1 : R1.safe.length ≤ 1048576 := by rw [hR1]; exact Hsf.out q
  have hnn : R1.nodes = R.nodes := by rw [hR1]; rfl
  have HR1 := Lib.hid hR1
  have Hrb := Lib.hid hrb
  rw [hrb1] at h2 g2
  have H2 := Lib.hid h2
  have G2 := Lib.hid (g1.trans g2)
  have Hnn := Lib.hid hnn
  obtain ⟨iF, hiF, hzF, hsF, hbF⟩ := info_parts infoName
  have hrl : rb < w1.heap.size := by rw [← hrb1]; exact lt_of_heap h1.blk
  obtain ⟨As, cs, hsv, hsl⟩ := h2.safe.sl
  simp only at hsv hsl
  have c3 : w1.cell? ⟨rb, 3, none⟩ = some (.slice As R1.safe.length cs) := by rw [← hrb1, ← hsv]; exact h1.cell 3 _ rfl
  have f2 : w1.frozen? ⟨rb, 2, none⟩ = false := by rw [← hrb1]; exact (blk_cells h1.blk).2.1 2
  have hone := nCells_one R1.safe
  clear h1 g1 h2 g2 hR1 hrb hpv hrb1 hnn H Hla
  obtain ⟨wS, hwS⟩ : ∃ wS, wS = w1.setCell ⟨rb, 4, none⟩ (.slice none 0 0) := ⟨_, rfl⟩
  have hz2 : wS.heap.size = w1.heap.size := by rw [hwS]; simp
  rw [← hwS] at H2 G2 hsl
  have Hsl := Lib.hid hsl
  have HwS := Lib.hid hwS
  clear hsl hwS
  have hown0 := World.ownsRow_made (e := 104) (size := 2) wS #[] 0 (Nat.le_refl _) (by simp) (by simp)
  rw [hz2] at hown0
  go_wp2_with (first | (at_builtin; rw [← HwS.out]; refine wpList_append_sl rfl _ _ 51 rfl w1.heap.size 104 iF (.agg #[.string ⟨#[]⟩, .int .i64 0]) 2 24 Tryz.underlying51 hiF hzF hsF hbF rfl (by omega) _ 0 [] rfl hown0 _ R1.safe.length cs (nCells R1.safe) rfl (Hsl.out.keep (Cells.of_below ((Below.refl _ _).alloc (Nat.le_refl _) _))) hone (by unfold maxLen; omega) (by omega) (by simp [hz2]) ?_))
  intro v3 w3 h3 g3
  have b3 : Below wS.heap.size wS w3 := ((Below.refl _ _).alloc (Nat.le_refl _) _).grown g3 (by simp) (by intro k hk; cases hk; rw [hz2]; exact Nat.le_refl _)
  obtain ⟨h4, g4⟩ := H2.out.setNow b3 (show NOwn w3 wS.heap.size v3 R1.safe by unfold NOwn; rw [hz2]; exact h3)
  obtain ⟨A3, c3', hv3⟩ := own_formT h3
  rw [hv3] at h4 g4 ⊢
  have hblk := (H2.out.below b3).blk
  simp only at hblk h4 g4
  have f2 : w3.frozen? ⟨rb, 2, none⟩ = false := (blk_cells hblk).2.1 2
  have c2 : w3.cell? ⟨rb, 2, none⟩ = some M1.wv := (blk_cells hblk).1 2
  obtain ⟨R3, hR3⟩ : ∃ R3 : RSt, R3 = { R1 with now := R1.safe, pend := [] } := ⟨_, rfl⟩
  rw [← hR3] at h4
  have hn3 : R3.nodes = R.nodes := by rw [hR3]; exact Hnn.out
  have H0 : Hid (CrRel w M R3 (max m 0).toNat (.int .i64 0) (w3.setCell ⟨rb, 2, none⟩ (.slice A3 R1.safe.length c3'))) := Lib.hid ⟨0, _, by omega, rfl, by rw [cutTo_zero]; exact h4, G2.out.trans g4⟩
  have HK3 : Hid (RInv 1048576 R3) := Lib.hid (HK.out.same hn3)
  have hnl : R3.nodes.length ≤ 1048576 := by rw [hn3]; exact HL.out.nodes
  have HR3 : Hid (∀ (M' : RMem) (w' : World), RAt w' M' { R3 with nodes := R3.nodes.map (cutF (max m 0).toNat), armed := 0, out := false } → RGr M w M' w' → P (.returned (.tuple #[])) w') := Lib.hid fun M' w' ha hg => by
    rw [HP.out]
    refine ⟨rfl, M', ?_, hg⟩
    rw [hR3] at ha
    have e : R.crash n m = { ({ R1 with now := R1.safe, pend := [] } : RSt) with nodes := R1.nodes.map (cutF (max m 0).toNat), armed := 0, out := false } := by
      unfold RSt.crash
      rw [HR1.out, Hq.out]
      rfl
    rw [e]
    exact ha
  clear b3 h4 g4 hv3 h3 g3 hblk c3 c4 f4 hown0 Hsl HwS H2 G2 hz2 hone hn3 hR3 HK HR1 Hnn hsl1
  go_wp2_with fail
  go_loopw [6] (fun iv wr => CrRel w M R3 (max m 0).toNat iv wr) (fun iv _ => R3.nodes.length - (intOf iv).toNat)
  case atStart => exact H0.out
  case round =>
    clear H0
    obtain ⟨k, M4, hk, rfl, h4, g4⟩ := hrel
    have hrb4 : M4.rb = rb := by rw [g4.rb]; exact Hrb.out.symm
    obtain ⟨N, hN⟩ : ∃ N, N = cutTo (max m 0).toNat R3.nodes k := ⟨_, rfl⟩
    have hNl : N.length = R3.nodes.length := by rw [hN]; exact cutTo_len _ _ _ hk
    by_cases hlt : k < R3.nodes.length
    · have hlI : (k : Int) < R3.nodes.length := by omega
      have hat : N.getD k noNd = R3.nodes.getD k noNd := by rw [hN]; exact cutTo_at _ _ hlt
      have hset := cutTo_set (max m 0).toNat R3.nodes hlt
      rw [← hN] at h4 hset
      have hkN : k < ({ R3 with nodes := N } : RSt).nodes.length := by simp only; omega
      obtain ⟨g, cn, Ad, cd, e1, _, e2, e3, hbs⟩ := h4.node_at hkN
      simp only at e1 e2 e3 hbs
      rw [hNl] at e1
      rw [hat] at e2 e3 hbs
      have c1 : wr.cell? ⟨rb, 1, none⟩ = some (.slice (some ⟨g, 0, none⟩) R3.nodes.length cn) := by rw [← hrb4, ← e1]; exact h4.cell 1 _ rfl
      have hsd := HK3.out.at_ k
      obtain ⟨sy, hsy⟩ : ∃ sy, sy = (R3.nodes.getD k noNd).sy := ⟨_, rfl⟩
      obtain ⟨d, hd⟩ : ∃ d, d = (R3.nodes.getD k noNd).d := ⟨_, rfl⟩
      rw [← hd] at e2 hbs hsd
      rw [← hsy] at e3 hsd
      obtain ⟨q7, hq7⟩ : ∃ q7 : Nat, q7 = sy + min (max m 0).toNat (d.length - sy) := ⟨_, rfl⟩
      have hq7I : (sy : Int) + min (max m 0) ((d.length : Int) - sy) = q7 := by omega
      have hq7l : q7 ≤ d.length := by omega
      have hcf : cutF (max m 0).toNat (R3.nodes.getD k noNd) = ⟨d.take q7, q7⟩ := by unfold cutF; rw [← hd, ← hsy, hq7]
      rw [hcf] at hset
      have Hset := Lib.hid hset
      clear hq7
      have H4 := Lib.hid h4
      have G4 := Lib.hid g4
      have Hbs := Lib.hid hbs
      have Hrb4 := Lib.hid hrb4
      have He1 := Lib.hid e1
      have HNl := Lib.hid hNl
      have r1 : IntKind.i64.wrap ((d.length : Int) - sy) = (d.length : Int) - sy := by rw [IntKind.wrap_i64]; omega
      have r3 : IntKind.i64.wrap ((sy : Int) + min (max m 0) ((d.length : Int) - sy)) = (q7 : Int) := by rw [IntKind.wrap_i64]; omega
      clear hset h4 g4 hbs hrb4 e1 hat hN hNl hkN hd hsy hcf
      go_wp2_with fail
      obtain ⟨wd, hwd⟩ : ∃ wd, wd = wr.drew := ⟨_, rfl⟩
      have hsu := slice_hiU Ad d.length cd q7 (by have := Hbs.out.le; omega)
      with_reducible refine g_mixx [(0, 0), (1, 0), (2, 0), (3, 0), (4, 0), (5, 0), (6, 0), (7, 0), (8, 0), (9, 0), (10, 0), (11, 0), (12, 0), (13, 0), (14, 0), (16, 0), (15, 2), (17, 0), (18, 0), (19, 3)] (fun w' => w'.cell? ⟨rb, 1, none⟩ = some (.slice (some ⟨g, 0, none⟩) R3.nodes.length cn) ∧ w'.cell? ⟨g, k * 2, none⟩ = some (.slice Ad d.length cd)) 0 _ rfl (by kernel_rfl) (by kernel_rfl) ?_ ?_
      · exact ⟨c1, e2⟩
      intro OPS HD
      simp only [mixX, nthO, consX]
      rw [← hwd]
      have c1 : wd.cell? ⟨rb, 1, none⟩ = some (.slice (some ⟨g, 0, none⟩) R3.nodes.length cn) := by rw [hwd]; exact c1
      have e2 : wd.cell? ⟨g, k * 2, none⟩ = some (.slice Ad d.length cd) := by rw [hwd]; exact e2
      have e3 : wd.cell? ⟨g, k * 2 + 1, none⟩ = some (.int .i64 (sy : Nat)) := by rw [hwd]; exact e3
      have H4d : Hid (RAt wd M4 { R3 with nodes := N }) := Lib.hid (by rw [hwd]; exact H4.out.drewN 1)
      have G4d : Hid (RGr M w M4 wd) := Lib.hid (by rw [hwd]; exact G4.out.trans (RGr.of_below ⟨rfl, rfl, rfl, Nat.le_refl _, fun _ _ => rfl⟩))
      have HbsF : Hid (Bs wd Ad cd (d.take q7)) := Lib.hid ((show Bs wd Ad cd d by rw [hwd]; exact Hbs.out.keep fun _ _ h => h).front q7)
      have hlF : (d.take q7).length = q7 := by rw [List.length_take]; omega
      obtain ⟨dF, hdF⟩ : ∃ dF, dF = d.take q7 := ⟨_, rfl⟩
      rw [← hdF] at HbsF hlF Hset
      have HlF := Lib.hid hlF
      clear hwd H4 G4 Hbs hdF hlF
      iterate 16 ((with_reducible refine x_val (v := ?_) ?_ ?_ ?_); rotate_left; (rintro _ ⟨h1, h2⟩; go_simp; first | done | rfl | (constructor <;> rfl)); exact ⟨c1, e2⟩)
      with_reducible refine x_one ?_
      have hby := rbytes_any dF Ad cd wd (by rw [HlF.out]; omega) HbsF.out
      rw [HlF.out] at hby
      refine l_call ?_ (hby.mono ?_)
      · go_simp
      rintro e w6 ⟨dv, rfl, hrow6, hb6⟩
      obtain ⟨A6, c6, hdv⟩ := own_formT hrow6
      rw [HlF.out] at hdv
      have hkN : k < ({ R3 with nodes := N } : RSt).nodes.length := by have := HNl.out; simp only; omega
      obtain ⟨h7, g7⟩ := H4d.out.setData hb6 hkN (by rw [He1.out]; simp only; rw [HNl.out]) (data_row hrow6) (fun k hk => (own_blk hrow6 k hk).1)
      have hkN2 : k < (({ R3 with nodes := N } : RSt).node k ⟨dF, ((({ R3 with nodes := N } : RSt).nodes).getD k noNd).sy⟩).nodes.length := by unfold RSt.node; simp only [List.length_set]; have := HNl.out; omega
      obtain ⟨h8, g8⟩ := h7.setSy hkN2 (by show M4.nv = _; rw [He1.out]; unfold RSt.node; simp only [List.length_set]; rw [HNl.out]) q7
      have hno : (({ R3 with nodes := N } : RSt).node k ⟨dF, ((({ R3 with nodes := N } : RSt).nodes).getD k noNd).sy⟩).node k ⟨(((({ R3 with nodes := N } : RSt).node k ⟨dF, ((({ R3 with nodes := N } : RSt).nodes).getD k noNd).sy⟩).nodes).getD k noNd).d, q7⟩ = { R3 with nodes := cutTo (max m 0).toNat R3.nodes (k + 1) } := by
        unfold RSt.node
        simp only
        rw [List.set_set, ← Hset.out]
        congr 2
        rw [List.getD_eq_getElem?_getD, List.getElem?_set_self (by have := HNl.out; omega)]
        rfl
      rw [hno] at h8
      rw [hdv] at h7 h8 g7 g8 ⊢
      refine ⟨_, rfl, ?_⟩
      have hcw := Cells.of_below hb6
      have c1 := hcw _ _ c1
      have e2 := hcw _ _ e2
      have e3 := hcw _ _ e3
      have hnd6 := (H4d.out.below hb6).nodes
      rw [He1.out] at hnd6
      simp only at hnd6
      rw [HNl.out] at hnd6
      have f0 : w6.frozen? ⟨g, k * 2, none⟩ = false := hnd6.frozenAt _
      have f1 : w6.frozen? ⟨g, k * 2 + 1, none⟩ = false := hnd6.frozenAt _
      have Hfin : Hid (CrRel w M R3 (max m 0).toNat (.int .i64 ((k : Int) + 1)) ((w6.setCell ⟨g, k * 2, none⟩ (.slice A6 q7 c6)).setCell ⟨g, k * 2 + 1, none⟩ (.int .i64 (q7 : Nat)))) := Lib.hid ⟨k + 1, _, by omega, by simp, h8, (G4d.out.trans g7).trans g8⟩
      clear h7 h8 g7 g8 hno hkN hkN2 hrow6 hb6 hby hcw hnd6 hdv H4d
      refine x_keep ⟨c1, e2⟩ ?_
      iterate 2 ((with_reducible refine x_val (v := ?_) ?_ ?_ ?_); rotate_left; (rintro _ ⟨h1, h2⟩; go_simp; first | done | rfl | (constructor <;> rfl)); exact ⟨c1, e2⟩)
      with_reducible refine x_three ?_
      with_reducible refine l_skip (w' := (w6.setCell ⟨g, k * 2, none⟩ (.slice A6 q7 c6)).setCell ⟨g, k * 2 + 1, none⟩ (.int .i64 (q7 : Nat))) ?_ ?_
      · go_simp
      refine x_last ?_
      with_reducible refine x_end ?_
      simp only [Act.put, List.setIfInBounds_toArray, List.set_cons_zero, List.set_cons_succ]
      go_wp2_with fail
      go_roundw
      case rel => exact Hfin.out
      case measure => simp [intOf]; omega
    · have hkl : k = R3.nodes.length := by omega
      have hlI : ¬ (k : Int) < R3.nodes.length := by omega
      rw [hkl, cutTo_all] at h4
      clear hN hNl hkl
      obtain ⟨Nv, cn, e1⟩ := own_formT h4.nodes
      simp only [List.length_map] at e1
      have c1 : wr.cell? ⟨rb, 1, none⟩ = some (.slice Nv R3.nodes.length cn) := by rw [← hrb4, ← e1]; exact h4.cell 1 _ rfl
      obtain ⟨h5, g5⟩ := h4.put (R' := { R3 with nodes := R3.nodes.map (cutF (max m 0).toNat), armed := 0 }) 6 (.int .i64 0) rfl rfl rfl rfl rfl
      obtain ⟨h6, g6⟩ := h5.put (R' := { R3 with nodes := R3.nodes.map (cutF (max m 0).toNat), armed := 0, out := false }) 7 (.bool false) rfl rfl rfl rfl rfl
      have c6 : wr.cell? ⟨rb, 6, none⟩ = some (.int .i64 (R3.armed : Nat)) := by rw [← hrb4]; exact h4.cell 6 _ rfl
      have f6 : wr.frozen? ⟨rb, 6, none⟩ = false := by rw [← hrb4]; exact (blk_cells h4.blk).2.1 6
      have c7 : (wr.setCell ⟨rb, 6, none⟩ (.int .i64 0)).cell? ⟨rb, 7, none⟩ = some (.bool R3.out) := by rw [← hrb4]; exact h5.cell 7 _ rfl
      have f7 : (wr.setCell ⟨rb, 6, none⟩ (.int .i64 0)).frozen? ⟨rb, 7, none⟩ = false := by rw [← hrb4]; exact (blk_cells h5.blk).2.1 7
      rw [hrb4] at h6 g6 g5
      have Hfin := Lib.hid (HR3.out _ _ h6 ((g4.trans g5).trans g6))
      clear h4 h5 h6 g4 g5 g6 e1 hrb4
      go_wp2_with fail
      go_end0
      exact Hfin.out
end Go.Proofs.YtaolddgnannojaaGreatDoor
namespace Go.Proofs.YtaolddgnannojaaGreatDoor
open Go.RowKit

section
variable {P : Program} {ops : Array Oper} {Q : Exit → Act → World → Prop} {S : World → Prop}
theorem o_mixy {id : Nat} {l : List Oper} {R : Act → World → Prop} {a : Act} {w : World} (m : List (Nat × Nat)) (S : World → Prop) (hm : P.follows .mixedOrders = true) (hB : planX .any l.toArray m = true) (hS : S w.drew)
    (h : ∀ OPS : Array Oper, (∀ gi : Nat, (OPS[gi]?).bind (·.dst) = (l[gi]?).bind (·.dst)) → wpX P OPS (only R) S (mixX m l) a w.drew) : (Code.region id l.toArray true).wp P (only R) a w := by
  simp only [planX, Bool.and_eq_true, decide_eq_true_eq, List.all_eq_true] at hB
  obtain ⟨⟨⟨⟨h1, h2⟩, h3⟩, _⟩, h4⟩ := hB
  refine wp_region_any hm (wpAny_of_D (S := S) (L := firstX m) _ _ _ _ ?_)
  show wpAnyD P .any l.toArray (only R) S (firstX m) l.toArray.size _ a w.drew
  have hdn : false = dn (firstX m) l.toArray.size (Array.replicate l.toArray.size false) := by
    symm
    unfold dn
    rw [List.any_eq_false]
    intro x _
    rw [getD_replicate_false]
    simp
  have key := wpAnyD_mix (P := P) (ops := l.toArray) (Q := only R) (md := .any) (S := S) (L := firstX m) h1 (fun j hj => firstX_lt m _ j h3 hj) only_panic l rfl m false (Array.replicate l.toArray.size false) a w.drew h3 (by simp) h4
    ⟨by simp, (fun j oj _ hj => by rw [getD_replicate_false] at hj; cases hj), (fun t ht ht' => by omega)⟩ hdn (.inr hS) (h _ fun gi => by simp)
  rw [h2] at key
  exact key
theorem g_mixy {id : Nat} {l : List Oper} {a : Act} {w : World} (m : List (Nat × Nat)) (S : World → Prop) (hm : P.follows .mixedOrders = true) (hB : planX .any l.toArray m = true) (hS : S w.drew)
    (h : ∀ OPS : Array Oper, (∀ gi : Nat, (OPS[gi]?).bind (·.dst) = (l[gi]?).bind (·.dst)) → wpX P OPS (only (Q .normal)) S (mixX m l) a w.drew) : (Code.region id l.toArray true).wp P Q a w :=
  o_link (o_mixy m S hm hB hS h) fun _ _ h => h
theorem wanted_no {o : Oper} {gi : Nat} {dg : Tmp} {b : Bool} {a : Act} (hd : (ops[gi]?).bind (·.dst) = some dg) (hg : o.guard = some (gi, b)) (hb : a.eval (.tmp dg) = undef) : Region.wanted o (yielded ops a.tmps) = false := by
  simp only [Act.eval, Array.getD_eq_getD_getElem?] at hb
  simp only [Region.wanted, hg, yielded, hd, Option.bind_some]
  cases h : a.tmps[dg]? with
  | none => rfl
  | some v =>
    rw [h] at hb
    simp only [Option.getD_some] at hb
    rw [hb]
    rfl
end
section
variable {P : Program} {ops : Array Oper} {Q : Exit → Act → World → Prop} {S : World → Prop} {a : Act} {w : World} {d : Option Tmp} {op : Op} {ty : TypeId} {pos : String} {af : Array Edge} {gi : Nat} {dg : Tmp} {b : Bool}
theorem x_outu {rest : List (Nat × Oper)} (hd : (ops[gi]?).bind (·.dst) = some dg) (hb : a.eval (.tmp dg) = undef) (hS : S w) (h : wpX P ops Q S rest (a.put d undef) w) :
    wpX P ops Q S ((0, { dst := d, op := op, type := ty, pos := pos, after := af, guard := some (gi, b) }) :: rest) a w := ⟨undef, .inr ⟨wanted_no hd rfl hb, rfl⟩, hS, h⟩
/-- a guarded operation that is to be walked alone, left out -/
theorem x_oneg {rest : List (Nat × Oper)} {c : Bool} (hd : (ops[gi]?).bind (·.dst) = some dg) (hb : a.eval (.tmp dg) = .bool c) (hc : (c == b) = false) (hS : S w) (h : wpX P ops Q S rest (a.put d undef) w) :
    wpX P ops Q S ((2, { dst := d, op := op, type := ty, pos := pos, after := af, guard := some (gi, b) }) :: rest) a w := x_one (l_outg hd hb hc (x_keep hS h))
theorem l_outu {rest : List Oper} (hd : (ops[gi]?).bind (·.dst) = some dg) (hb : a.eval (.tmp dg) = undef) (h : wpList P ops Q rest (a.put d undef) w) :
    wpList P ops Q ({ dst := d, op := op, type := ty, pos := pos, after := af, guard := some (gi, b) } :: rest) a w := by
  have hw : Region.wanted { dst := d, op := op, type := ty, pos := pos, after := af, guard := some (gi, b) } (yielded ops a.tmps) = false := wanted_no hd rfl hb
  simp only [wpList, hw]
  exact h
theorem x_onegu {rest : List (Nat × Oper)} (hd : (ops[gi]?).bind (·.dst) = some dg) (hb : a.eval (.tmp dg) = undef) (hS : S w) (h : wpX P ops Q S rest (a.put d undef) w) :
    wpX P ops Q S ((2, { dst := d, op := op, type := ty, pos := pos, after := af, guard := some (gi, b) }) :: rest) a w := x_one (l_outu hd hb (x_keep hS h))
end
end Go.Proofs.YtaolddgnannojaaGreatDoor
