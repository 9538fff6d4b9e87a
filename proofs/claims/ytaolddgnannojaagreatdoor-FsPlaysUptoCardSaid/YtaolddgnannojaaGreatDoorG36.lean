/-
  The reference: SyncDir.
  The reference: Files.
-/
import Derived.Test.YtaolddgnannojaaGreatDoorG35
namespace Go.Proofs.YtaolddgnannojaaGreatDoor
open Go.RowKit Go.Maps

attribute [local go_sem] lt1 lt2 lt3 lt4 lt5 lt6

def SdRelR (w : World) (R : RSt) (dir : ByteArray) (nv iv : Value) (wr : World) : Prop := ∃ k : Nat, k ≤ R.pend.length ∧ iv = .int .i64 k ∧ nv = .int .i64 (lastR R.pend dir k : Nat) ∧ ∃ n, wr = w.drewN n
theorem lastR_le (P : List RChg) (dir : ByteArray) : ∀ n, lastR P dir n ≤ n
  | 0 => Nat.le_refl _
  | n + 1 => by
    unfold lastR
    split
    · exact Nat.le_refl _
    · have := lastR_le P dir n
      omega
set_option maxHeartbeats 8000000 in
set_option maxRecDepth 100000 in
theorem rsyncdir_any (w : World) (M : RMem) (R : RSt) (h : RAt w M R) (hl : RLim R) (hs : ∀ j, ((R.pend.take j).foldl does R.safe).length ≤ 1048576) (hc : ∀ c ∈ R.pend, c.off.size ≠ 0 ∨ c.on.size ≠ 0) (dir : ByteArray) (hd : dir.size ≤ 1048576) :
    Calls Tryz.prog 39 #[.pointer (some ⟨M.rb, 0, none⟩), .string dir] w (ROut w M (R.syncdir dir)) := by
  obtain ⟨P, hP⟩ : ∃ P, P = ROut w M (R.syncdir dir) := ⟨_, rfl⟩
  rw [← hP]
  have HP := Lib.hid hP
  have H := Lib.hid h
  have HL := Lib.hid hl
  have Hs := Lib.hid hs
  have Hc := Lib.hid hc
  have c7 : w.cell? ⟨M.rb, 7, none⟩ = some (.bool R.out) := h.cell 7 _ rfl
  clear hP h hl hs hc
  by_cases ho : R.out = true
  · have Hend : Hid (P (.returned (.int .i64 5)) w) := Lib.hid (by
      rw [HP.out]
      unfold RSt.syncdir
      rw [if_pos ho]
      exact ⟨rfl, M, H.out, RGr.refl _ _⟩)
    rw [ho] at c7
    go_enter Tryz.func39, Tryz.ntmps39
    go_wp2_with fail
    exact Hend.out
  have hof : R.out = false := by simpa using ho
  rw [hof] at c7
  go_enter Tryz.func39, Tryz.ntmps39
  go_wp2_with fail
  refine (rvalid_any w dir hd).mono ?_
  rintro e w1 ⟨rfl, hb1⟩
  have H1 := Lib.hid (H.out.below hb1)
  have B1 := Lib.hid hb1
  clear hb1 c7 H
  obtain ⟨v, hv⟩ : ∃ v, v = validF (toL dir) := ⟨_, rfl⟩
  rw [← hv]
  have HV := Lib.hid hv
  clear hv
  have hway : (dir.size ≠ 0 ∧ v = false) ∨ dir.size = 0 ∨ (dir.size ≠ 0 ∧ v = true) := by cases v <;> by_cases h : dir.size = 0 <;> simp [h]
  rcases hway with ⟨h0, rfl⟩ | hway
  · have hne : (dir.toList != []) = true := by
      have := str_some h0
      rw [bne, Bool.not_eq_true']
      exact beq_list (by simpa using this)
    have hne2 : dir.toList.isEmpty = false := str_some h0
    have Hend : Hid (P (.returned (.int .i64 1)) w1) := Lib.hid (by
      rw [HP.out]
      unfold RSt.syncdir
      rw [if_neg ho, if_pos ⟨h0, HV.out.symm⟩]
      exact ⟨rfl, M, H1.out, RGr.of_below B1.out⟩)
    clear h0
    go_wp2_with fail
    exact Hend.out
  have Hno : Hid (¬ (dir.size ≠ 0 ∧ validF (toL dir) = false)) := Lib.hid (by
    rw [← HV.out]
    rcases hway with h | ⟨_, h⟩
    · exact fun hh => hh.1 h
    · rw [h]; exact fun hh => by simp at hh)
  have hto : (dir.toList != []) = false ∧ dir.toList.isEmpty = true ∨ (dir.toList != []) = true ∧ dir.toList.isEmpty = false ∧ v = true := by
    rcases hway with h | ⟨h, h2⟩
    · have := str_none h
      have e : dir.toList = [] := by simpa using this
      exact .inl ⟨by rw [e]; rfl, this⟩
    · have := str_some h
      exact .inr ⟨by rw [bne, Bool.not_eq_true']; exact beq_list (by simpa using this), this, h2⟩
  clear hway HV
  rcases hto with ⟨t1, t2⟩ | ⟨t1, t2, rfl⟩
  all_goals
    go_wp2_with fail
    refine (fails_any w1 M R H1.out hof HL.out.armed (by have := HL.out.done; omega)).mono ?_
    rintro e w2 ⟨rfl, M2, h2, g2⟩
    clear t1 t2
    by_cases ha : R.armed = 1
    · rw [if_pos ha] at h2
      rw [decide_eq_true ha]
      have Hend : Hid (P (.returned (.int .i64 5)) w2) := Lib.hid (by
        rw [HP.out]
        unfold RSt.syncdir
        rw [if_neg ho, if_neg Hno.out, if_pos ha]
        exact ⟨rfl, M2, h2, (RGr.of_below B1.out).trans g2⟩)
      clear h2 g2 ha
      go_wp2_with fail
      exact Hend.out
    rw [if_neg ha] at h2
    rw [decide_eq_false ha]
    have Hha := Lib.hid ha
    have hpl := HL.out.pend
    obtain ⟨Ap, cp, hpv⟩ := own_formT h2.pend
    change M2.pv = .slice Ap R.pend.length cp at hpv
    have c4 : w2.cell? ⟨M.rb, 4, none⟩ = some (.slice Ap R.pend.length cp) := by rw [← g2.rb, ← hpv]; exact h2.cell 4 _ rfl
    have H2 := Lib.hid h2
    have G2 := Lib.hid ((RGr.of_below (M := M) B1.out).trans g2)
    have Hpv := Lib.hid hpv
    have Hrb := Lib.hid g2.rb
    clear h2 g2 ha hpv H1 B1
    go_wp2_with fail
    go_loopw [6, 7] (fun nv iv wr => SdRelR w2 R dir nv iv wr) (fun _ iv _ => R.pend.length - (intOf iv).toNat)
    case atStart => exact ⟨0, by omega, rfl, rfl, 0, rfl⟩
    case round =>
      obtain ⟨k, hk, rfl, rfl, hwr⟩ := hrel
      have hcw : Cells w2 wr := by obtain ⟨n, rfl⟩ := hwr; exact fun _ _ h => h
      have d4 := hcw _ _ c4
      have Hwr := Lib.hid hwr
      have hln := lastR_le R.pend dir k
      clear hwr
      by_cases hlt : k < R.pend.length
      · have hkI : (k : Int) < R.pend.length := by omega
        obtain ⟨g, c, e1, q0, _, _, _⟩ := pend_at (show w2.ownsRow 0 99 4 M2.pv R.pend.length (chCells R.pend) from H2.out.pend) hlt
        rw [Hpv.out] at e1
        simp only [Value.slice.injEq, true_and] at e1
        obtain ⟨rfl, rfl⟩ := e1
        have q0 := hcw _ _ q0
        have hls : lastR R.pend dir (k + 1) = if (R.pend.getD k noCh).dir = dir then k + 1 else lastR R.pend dir k := rfl
        have hne := str_eq (R.pend.getD k noCh).dir dir
        generalize R.pend.getD k noCh = p at *
        obtain ⟨ln, hlnn⟩ : ∃ ln, ln = lastR R.pend dir k := ⟨_, rfl⟩
        rw [← hlnn] at hls hln ⊢
        clear hlnn hcw
        by_cases hs : p.dir = dir
        · rw [if_pos hs] at hls
          rw [decide_eq_true hs] at hne
          have Hls := Lib.hid hls
          clear hs hls
          go_wp2_with fail
          go_roundw
          case rel => exact ⟨k + 1, by omega, by go_num, by rw [Hls.out]; go_num, Hwr.out⟩
          case measure => simp [intOf]; omega
        · rw [if_neg hs] at hls
          rw [decide_eq_false hs] at hne
          have Hls := Lib.hid hls
          clear hs hls
          go_wp2_with fail
          go_roundw
          case rel => exact ⟨k + 1, by omega, by go_num, by rw [Hls.out], Hwr.out⟩
          case measure => simp [intOf]; omega
      · obtain rfl : k = R.pend.length := by omega
        obtain ⟨ln, hlnn⟩ : ∃ ln, ln = lastR R.pend dir R.pend.length := ⟨_, rfl⟩
        rw [← hlnn] at hln ⊢
        have hw2 : RAt wr M2 R.did := by obtain ⟨n, hn⟩ := Hwr.out; rw [hn]; exact H2.out.drewN n
        have G3 : Hid (RGr M w M2 wr) := Lib.hid (by obtain ⟨n, hn⟩ := Hwr.out; rw [hn]; exact G2.out.trans (RGr.of_below ⟨rfl, rfl, rfl, Nat.le_refl _, fun _ _ => rfl⟩))
        have hla := rlasts_any wr M2 R.did hw2 hpl Hs.out Hc.out ln hln
        rw [Hrb.out] at hla
        have Hla := Lib.hid hla
        have Hln := Lib.hid hlnn
        clear hla hw2 hlnn hcw
        go_wp2_with fail
        refine Hla.out.mono ?_
        rintro e w4 ⟨rfl, M4, h4, g4⟩
        have Hend : Hid (P (.returned (.int .i64 0)) w4) := Lib.hid (by
          rw [HP.out]
          unfold RSt.syncdir
          rw [if_neg ho, if_neg Hno.out, if_neg Hha.out, ← Hln.out]
          exact ⟨rfl, M4, h4, G3.out.trans g4⟩)
        clear h4 g4
        go_wp2_with fail
        exact Hend.out
end Go.Proofs.YtaolddgnannojaaGreatDoor
namespace Go.Proofs.YtaolddgnannojaaGreatDoor
open Go.RowKit Go.Maps

attribute [local go_sem] lt1 lt2 lt3 lt4 lt5 lt6

/-- a file's cells, its bytes a row of their own -/
def CFr (w : World) (base : Nat) (c : List Value) (p : Fl) : Prop :=
  ∃ A cap, c = [.string p.1, .slice A p.2.length cap] ∧ w.ownsRow base 5 1 (.slice A p.2.length cap) p.2.length (u8s p.2)
theorem CFr.cfl {w : World} {base : Nat} {c : List Value} {p : Fl} (h : CFr w base c p) : CFl w c p := by
  obtain ⟨A, cap, rfl, h1⟩ := h
  obtain ⟨A2, c2, e, hb⟩ := own_bs h1
  simp only [Value.slice.injEq, true_and] at e
  obtain ⟨rfl, rfl⟩ := e
  exact ⟨_, _, rfl, hb⟩
theorem CFr.keep {w w' : World} {base : Nat} {c : List Value} {p : Fl} (h : CFr w base c p) (hb : Bytes8 w w') : CFr w' base c p := by
  obtain ⟨A, cap, rfl, h1⟩ := h
  exact ⟨A, cap, rfl, own_keep h1 fun g cs hg => hb g cs hg⟩
def RFlPost (w : World) (L : List Fl) (e : Ending) (w' : World) : Prop := ∃ A c, e = .returned (.slice A L.length c) ∧ FlAt w' A c L ∧ Below w.heap.size w w'
def RFlRel (w : World) (L : List Fl) (ov iv : Value) (wr : World) : Prop :=
  ∃ i cs, i ≤ L.length ∧ iv = .int .i64 (i : Nat) ∧ All2 (CFr wr w.heap.size) cs (L.take i) ∧ wr.ownsRow w.heap.size 44 2 ov i cs.flatten ∧ Below w.heap.size w wr
theorem rfiles_at (R : RSt) {k : Nat} (hk : k < R.now.length) : R.files.getD k noFl = ((R.now.getD k noN).1, (R.nodes.getD (R.now.getD k noN).2 noNd).d) := by
  unfold RSt.files
  rw [List.getD_eq_getElem?_getD, List.getElem?_map, List.getElem?_eq_getElem hk, List.getD_eq_getElem?_getD (l := R.now), List.getElem?_eq_getElem hk]
  rfl
theorem rfiles_len (R : RSt) : R.files.length = R.now.length := by unfold RSt.files; simp
theorem RFlRel.done {w wr : World} {L : List Fl} {A : Option Addr} {c : Nat} {cs : List (List Value)} (hcs : All2 (CFr wr w.heap.size) cs (L.take L.length)) (hr : wr.ownsRow w.heap.size 44 2 (.slice A L.length c) L.length cs.flatten) (hb : Below w.heap.size w wr) : RFlPost w L (.returned (.slice A L.length c)) wr := by
  rw [List.take_length] at hcs
  have h1 : FlOwn wr w.heap.size (.slice A L.length c) L := ⟨cs, hcs.mono fun _ _ h => h.cfl, hr⟩
  obtain ⟨A2, c2, e, h2⟩ := h1.files
  simp only [Value.slice.injEq, true_and] at e
  obtain ⟨rfl, rfl⟩ := e
  exact ⟨_, _, rfl, h2, hb⟩
set_option maxHeartbeats 8000000 in
set_option maxRecDepth 100000 in
theorem rfiles_any (w : World) (M : RMem) (R : RSt) (h : RAt w M R) (hl : R.now.length ≤ 1048576) (hin : ∀ p ∈ R.now, p.2 < R.nodes.length) (hd : ∀ i, (R.nodes.getD i noNd).d.length ≤ 1048576) :
    Calls Tryz.prog 53 #[.pointer (some ⟨M.rb, 0, none⟩)] w (RFlPost w R.files) := by
  obtain ⟨P, hP⟩ : ∃ P, P = RFlPost w R.files := ⟨_, rfl⟩
  rw [← hP]
  have HP := Lib.hid hP
  have H := Lib.hid h
  obtain ⟨Aw, cw, hwv, hat⟩ := h.now.rows
  have c2 : w.cell? ⟨M.rb, 2, none⟩ = some (.slice Aw R.now.length cw) := by rw [← hwv]; exact h.cell 2 _ rfl
  have c1 : w.cell? ⟨M.rb, 1, none⟩ = some M.nv := h.cell 1 _ rfl
  have Hat := Lib.hid hat
  have Hin := Lib.hid hin
  have Hd := Lib.hid hd
  obtain ⟨iF, hiF, hzF, hsF, hbF⟩ := info_parts infoFile
  have HLa : Hid (∀ k, k < R.now.length → R.files.getD k noFl = ((R.now.getD k noN).1, (R.nodes.getD (R.now.getD k noN).2 noNd).d)) := Lib.hid fun k hk => rfiles_at R hk
  have hLl := rfiles_len R
  obtain ⟨L, hL⟩ : ∃ L, L = R.files := ⟨_, rfl⟩
  rw [← hL] at HP HLa hLl
  have HLl := Lib.hid hLl
  clear hP h hat hwv hin hd hL hLl
  go_enter Tryz.func53, Tryz.ntmps53
  go_wp2_with fail
  go_loopw [3, 4] (fun ov iv wr => RFlRel w L ov iv wr) (fun _ iv _ => L.length - (intOf iv).toNat)
  case atStart => exact ⟨0, [], by omega, rfl, trivial, World.ownsRow_nil _ _ _ _, Below.refl _ _⟩
  case round =>
    obtain ⟨i, cs, hi, rfl, hcs, hrow, hbl⟩ := hrel
    obtain ⟨Ao, co, hov⟩ := own_formT hrow
    subst hov
    have hir : (0 : Int) ≤ i := by omega
    have hil := HLl.out
    have hcw := Cells.of_below hbl
    have d2 := hcw _ _ c2
    have d1 := hcw _ _ c1
    have Hcs := Lib.hid hcs
    have Hrow := Lib.hid hrow
    have Hbl := Lib.hid hbl
    clear hcs hrow hbl
    by_cases hlt : i < R.now.length
    · have hlI : (i : Int) < R.now.length := by omega
      obtain ⟨b, o, rfl, q0, q1⟩ := (Hat.out.keep hcw).at_ hlt
      have hil2 := Hin.out _ (List.getElem_mem hlt)
      have hg : R.now[i] = R.now.getD i noN := by rw [List.getD_eq_getElem?_getD, List.getElem?_eq_getElem hlt]; rfl
      rw [hg] at hil2
      obtain ⟨g, cn, Ad, cd, e1, _, e2, _, hbs⟩ := (H.out.below Hbl.out).node_at hil2
      rw [e1] at d1
      have hat := HLa.out i hlt
      have htk := take_getD (show i < L.length by omega)
      rw [hat] at htk
      have hdl := Hd.out (R.now.getD i noN).2
      generalize R.now.getD i noN = p at *
      obtain ⟨d, hdd⟩ : ∃ d, d = (R.nodes.getD p.2 noNd).d := ⟨_, rfl⟩
      rw [← hdd] at e2 hbs htk hdl
      have Htk := Lib.hid htk
      have Hbs := Lib.hid hbs
      have hnI : (p.2 : Int) < R.nodes.length := by omega
      clear hg hat htk hdd hbs e1 hcw
      go_wp2_with fail
      obtain ⟨wd, hwd⟩ : ∃ wd, wd = wr.drew := ⟨_, rfl⟩
      with_reducible refine g_mixx [(0, 0), (1, 0), (2, 0), (3, 0), (4, 0), (5, 0), (6, 0), (7, 0), (8, 0), (9, 0), (10, 0), (11, 0), (12, 0), (13, 0), (14, 0), (15, 0), (16, 0), (17, 0), (18, 0), (19, 0), (20, 0), (21, 0), (22, 0), (23, 0), (24, 2), (25, 0), (26, 2), (27, 3), (28, 1)] (fun w' => (w'.cell? ⟨M.rb, 2, none⟩ = some (.slice (some ⟨b, o, none⟩) R.now.length cw) ∧ w'.cell? ⟨M.rb, 1, none⟩ = some (.slice (some ⟨g, 0, none⟩) R.nodes.length cn)) ∧ (w'.cell? ⟨b, o + i * 2, none⟩ = some (.string p.1) ∧ w'.cell? ⟨b, o + i * 2 + 1, none⟩ = some (.int .i64 (p.2 : Nat))) ∧ w'.cell? ⟨g, p.2 * 2, none⟩ = some (.slice Ad d.length cd)) 0 _ rfl (by kernel_rfl) (by kernel_rfl) ?_ ?_
      · exact ⟨⟨d2, d1⟩, ⟨q0, q1⟩, e2⟩
      intro OPS HD
      simp only [mixX, nthO, consX]
      rw [← hwd]
      have d2 : wd.cell? ⟨M.rb, 2, none⟩ = some (.slice (some ⟨b, o, none⟩) R.now.length cw) := by rw [hwd]; exact d2
      have d1 : wd.cell? ⟨M.rb, 1, none⟩ = some (.slice (some ⟨g, 0, none⟩) R.nodes.length cn) := by rw [hwd]; exact d1
      have q0 : wd.cell? ⟨b, o + i * 2, none⟩ = some (.string p.1) := by rw [hwd]; exact q0
      have q1 : wd.cell? ⟨b, o + i * 2 + 1, none⟩ = some (.int .i64 (p.2 : Nat)) := by rw [hwd]; exact q1
      have e2 : wd.cell? ⟨g, p.2 * 2, none⟩ = some (.slice Ad d.length cd) := by rw [hwd]; exact e2
      have HbsD : Hid (Bs wd Ad cd d) := Lib.hid (by rw [hwd]; exact Hbs.out.keep fun _ _ h => h)
      have hbd : Below wr.heap.size wr wd := by rw [hwd]; exact ⟨rfl, rfl, rfl, Nat.le_refl _, fun _ _ => rfl⟩
      have Hbd := Lib.hid hbd
      clear hwd hbd Hbs
      iterate 24 ((with_reducible refine x_val (v := ?_) ?_ ?_ ?_); rotate_left; (rintro _ ⟨⟨h1, h2⟩, ⟨h3, h4⟩, h5⟩; go_simp; first | done | rfl | (constructor <;> rfl)); exact ⟨⟨d2, d1⟩, ⟨q0, q1⟩, e2⟩)
      with_reducible refine x_one ?_
      refine l_call ?_ ((rbytes_any d Ad cd wd hdl HbsD.out).mono ?_)
      · go_simp
      rintro e w3 ⟨dv, rfl, hrow3, hb3⟩
      obtain ⟨A3, c3, hdv⟩ := own_formT hrow3
      subst hdv
      refine ⟨_, rfl, ?_⟩
      have hcw := Cells.of_below hb3
      have d2 := hcw _ _ d2
      have d1 := hcw _ _ d1
      have q0 := hcw _ _ q0
      have q1 := hcw _ _ q1
      have e2 := hcw _ _ e2
      have hb3' := Hbd.out.trans (hb3.mono Hbd.out.size)
      have hsz := Hbl.out.size
      have hrow3' : w3.ownsRow w.heap.size 5 1 (.slice A3 d.length c3) d.length (u8s d) := own_base hrow3 (Nat.le_trans hsz Hbd.out.size)
      refine x_keep ⟨⟨d2, d1⟩, ⟨q0, q1⟩, e2⟩ ?_
      iterate 1 ((with_reducible refine x_val (v := ?_) ?_ ?_ ?_); rotate_left; (rintro _ ⟨⟨h1, h2⟩, ⟨h3, h4⟩, h5⟩; go_simp; first | done | rfl | (constructor <;> rfl)); exact ⟨⟨d2, d1⟩, ⟨q0, q1⟩, e2⟩)
      with_reducible refine x_one ?_
      obtain ⟨w4, hw4⟩ : ∃ w4, w4 = w3.alloc (.cells #[.string p.1, .slice A3 d.length c3] 44) := ⟨_, rfl⟩
      with_reducible refine l_val (v := .slice (some ⟨w3.heap.size, 0, none⟩) 1 1) (w' := w4) ?_ ?_
      · rw [hw4]
        go_simp
      have hb34 : Below w3.heap.size w3 w4 := by rw [hw4]; exact (Below.refl _ _).alloc (Nat.le_refl _) _
      have hnew4 : w4.heap[w3.heap.size]? = some (.cells #[.string p.1, .slice A3 d.length c3] 44 (0, 0)) := by rw [hw4]; exact heap_alloc_new _ _
      have hb4 := hb3'.trans (hb34.mono hb3'.size)
      have hcw := Cells.of_below hb34
      have d2 := hcw _ _ d2
      have d1 := hcw _ _ d1
      have q0 := hcw _ _ q0
      have q1 := hcw _ _ q1
      have e2 := hcw _ _ e2
      refine x_keep ⟨⟨d2, d1⟩, ⟨q0, q1⟩, e2⟩ ?_
      with_reducible refine x_three ?_
      have hrow4 := row_below Hrow.out hb4
      have hb04 := Hbl.out.trans (hb4.mono hsz)
      refine wpList_append_own_at _ rfl (.tmp 14) (.tmp 40) 40 rfl w.heap.size 44 iF (.agg #[.string ⟨#[]⟩, .slice none 0 0]) 2 40 Tryz.underlying40 hiF hzF hsF hbF rfl (by omega) (.slice Ao i co) i cs.flatten ?_ hrow4 ⟨w3.heap.size, 0, none⟩ 1 1 [.string p.1, .slice A3 d.length c3] ?_ rfl (fun j v hv => World.news_of_block hnew4 j v hv) one_file (by unfold maxLen; omega) (by omega) hb04.size ?_
      · simp [Act.eval, Act.put]
      · simp [Act.eval, Act.put]
      intro v7 w7 h7 hg7 _ hat7
      have hby : Bytes8 wr w4 := Bytes8.of_below hb4
      have hby7 : Bytes8 w4 w7 := Bytes8.of_grown hg7 hrow4
      obtain ⟨A7, c7, hv7⟩ := own_formT h7
      have hb07 := hb04.grown hg7 hb04.size fun k hk => (own_blk hrow4 k hk).1
      have Hfin : Hid (RFlRel w L v7 (.int .i64 ((i : Int) + 1)) w7) := Lib.hid ⟨i + 1, cs ++ [[.string p.1, .slice A3 d.length c3]], by omega, rfl, by
        rw [Htk.out]
        exact (Hcs.out.mono fun _ _ h => h.keep (hby.trans hby7)).append (((show CFr w3 w.heap.size [.string p.1, .slice A3 d.length c3] (p.1, d) from ⟨A3, c3, rfl, hrow3'⟩).keep (Bytes8.of_below hb34)).keep hby7), by
        rw [List.flatten_append, List.flatten_singleton]
        exact h7, hb07⟩
      rw [hv7] at Hfin ⊢
      clear h7 hg7 hat7 hv7 hby hby7 hb07 hrow4 hb04 hnew4 hb4 hb34 hw4 hrow3 hrow3' hb3 hb3' hcw d2 d1 q0 q1 e2
      refine x_last ?_
      iterate 1 ((with_reducible refine x_any (v := ?_) ?_ ?_); rotate_left; (rintro _; go_simp; first | done | rfl | (constructor <;> rfl)))
      with_reducible refine x_end ?_
      simp only [Act.put, List.setIfInBounds_toArray, List.set_cons_zero, List.set_cons_succ]
      go_wp2_with fail
      go_roundw
      case rel => exact Hfin.out
      case measure => simp [intOf]; omega
    · have hiL : i = L.length := by omega
      have hlI : ¬ (i : Int) < R.now.length := by omega
      have Hfin : Hid (P (.returned (.slice Ao R.now.length co)) wr) := Lib.hid (by
        rw [HP.out]
        have h1 := Hcs.out
        have h2 := Hrow.out
        rw [hiL] at h1 h2
        rw [← hil]
        exact RFlRel.done h1 h2 Hbl.out)
      clear Hcs Hrow Hbl
      go_wp2_with fail
      exact Hfin.out
end Go.Proofs.YtaolddgnannojaaGreatDoor
