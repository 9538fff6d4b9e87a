/-
  Write.
-/
import Derived.Test.YtaolddgnannojaaGreatDoorG7
namespace Go.Proofs.YtaolddgnannojaaGreatDoor
open Go.RowKit Go.Maps

attribute [local go_sem] lt1 lt2 lt3 lt4 lt5 lt6

/-- what more a write of so many bytes needs: bytes, files -/
def FsSt.more (S : FsSt) (name : ByteArray) (n : Nat) : Int × Int := match S.of name with
  | some i => ((n : Int) - S.lenAt i, 0)
  | none => (n, 1)
def FsSt.write (S : FsSt) (name : ByteArray) (d : List UInt8) : Nat × FsSt :=
  if S.down then (5, S) else if validF (toL name) then if S.full (S.more name d.length).1 (S.more name d.length).2 then (4, S) else (S.wrErr, S.wrote (S.tick.write1 name d (S.more name d.length).1)) else (1, S)
theorem enter_w1 (args : Array Value) (w : World) : (callFunc 25 args).run Tryz.prog w = .ok (.enter 25 args) w := Go.MuLone.run_callFunc_enter Tryz.func25 (by kernel_rfl) rfl args w
theorem WrPost.refl {w : World} {M : FsMem} {S : FsSt} {n : Nat} {w' : World} (h : FsAt w M S) (hb : Below w.heap.size w w') : WrPost w M S n (.returned (.int .i64 (n : Nat))) w' :=
  ⟨rfl, M, h.below hb, Gr.of_below hb⟩
set_option maxHeartbeats 4000000 in
set_option maxRecDepth 10000 in
theorem fwrite_any (w : World) (M : FsMem) (S : FsSt) (K : Nat) (h : FsAt w M S) (hi : FsInv K S) (hK : K ≤ 1048576) (hm : MaxL w) (hg : 0 ∉ M.own) (name : ByteArray) (hn : name.size ≤ 1048576)
    (d : List UInt8) (A : Option Addr) (c : Nat) (hb : Bs w A c d) (ho : Out M A d) (hd : d.length ≤ 1048576) :
    Calls Tryz.prog 9 #[.pointer (some ⟨M.fb, 0, none⟩), .string name, .slice A d.length c] w (WrPost w M (S.write name d).2 (S.write name d).1) := by
  have c9 : w.cell? ⟨M.fb, 9, none⟩ = some (.bool S.down) := (h.cell 9 _ rfl).1
  have hfb := h.lt M.fb (by simp [FsMem.own])
  have H := Lib.hid h
  have HM := Lib.hid hm
  have HB := Lib.hid hb
  clear h hm hb
  obtain ⟨P, hP⟩ : ∃ P, P = WrPost w M (S.write name d).2 (S.write name d).1 := ⟨_, rfl⟩
  rw [← hP]
  have HP := Lib.hid hP
  clear hP
  by_cases hdn : S.down = true
  · rw [hdn] at c9
    go_enter Tryz.func9, Tryz.ntmps9
    go_wp2_with fail
    show P (.returned (.int .i64 5)) _
    rw [HP.out]
    unfold FsSt.write
    rw [if_pos hdn]
    exact WrPost.refl H.out ((((Below.refl w.heap.size w).alloc (Nat.le_refl _) _).alloc (by simp) _).alloc (by simp; omega) _)
  have hdn : S.down = false := by simpa using hdn
  rw [hdn] at c9
  go_enter Tryz.func9, Tryz.ntmps9
  go_wp2_with fail
  have hB1 : Below w.heap.size w (((w.alloc (.cells #[.pointer (some ⟨M.fb, 0, none⟩)] 25)).alloc (.cells #[.string name] 9)).alloc (.cells #[.slice A d.length c] 29)) := ((((Below.refl w.heap.size w).alloc (Nat.le_refl _) _).alloc (by simp) _).alloc (by simp; omega) _)
  refine (valid_any _ name hn (HM.out.below hB1)).mono ?_
  rintro e w1 ⟨rfl, hb1⟩
  have hB2 : Below w.heap.size w w1 := hB1.trans (hb1.mono (by simp; omega))
  have q0 : w1.heap[w.heap.size]? = some (.cells #[.pointer (some ⟨M.fb, 0, none⟩)] 25 (0, 0)) := by
    refine (hb1.block _ (by simp; omega)).trans ?_
    exact (Below.heap_alloc _ _ _ (by simp; omega)).trans ((Below.heap_alloc _ _ _ (by simp)).trans (heap_alloc_new w _))
  have q3 : w1.heap[w.heap.size + 1]? = some (.cells #[.string name] 9 (0, 0)) := by
    refine (hb1.block _ (by simp)).trans ?_
    exact (Below.heap_alloc _ _ _ (by simp)).trans (by simpa using heap_alloc_new (w.alloc (.cells #[.pointer (some ⟨M.fb, 0, none⟩)] 25)) (.cells #[.string name] 9))
  have q1 : w1.heap[w.heap.size + 1 + 1]? = some (.cells #[.slice A d.length c] 29 (0, 0)) := by
    refine (hb1.block _ (by simp)).trans ?_
    exact by simpa using heap_alloc_new ((w.alloc (.cells #[.pointer (some ⟨M.fb, 0, none⟩)] 25)).alloc (.cells #[.string name] 9)) (.cells #[.slice A d.length c] 29)
  have hM1 := HM.out.below hB2
  have hb1' := HB.out.keep (Cells.of_below hB2)
  have H1 := Lib.hid (H.out.below hB2)
  have Q0 := Lib.hid q0
  have Q1 := Lib.hid q1
  have Q3 := Lib.hid q3
  have k0 := box_cell q0
  have k3 := box_cell q3
  have k1 := box_cell q1
  have hsz : w.heap.size + 1 + 1 < w1.heap.size := lt_of_heap q1
  have hs0 : w.heap.size < w1.heap.size := by omega
  have hs1 : w.heap.size + 1 < w1.heap.size := by omega
  have hg1 := (Gr.of_below (M := M) hB2).maxL HM.out hg
  have G1 := Lib.hid (Gr.of_below (M := M) hB2)
  have HM1 := Lib.hid hM1
  have HB1 := Lib.hid hb1'
  generalize w.heap.size = nb at *
  clear hB1 hb1 hB2 q0 q1 q3 hM1 hb1' HM HB c9
  by_cases hv : validF (toL name) = false
  · rw [hv]
    go_wp2_with fail
    show P (.returned (.int .i64 1)) _
    rw [HP.out]
    unfold FsSt.write
    rw [hdn, hv]
    exact ⟨rfl, M, H1.out, G1.out⟩
  have hv : validF (toL name) = true := by simpa using hv
  rw [hv]
  go_wp2_with fail
  have hnew : (w1.alloc (.cells #[.int .i64 (d.length : Nat)] 3)).heap[w1.heap.size]? = some (.cells #[.int .i64 (d.length : Nat)] 3 (0, 0)) := heap_alloc_new _ _
  have hbx : Below w1.heap.size w1 (w1.alloc (.cells #[.int .i64 (d.length : Nat)] 3)) := (Below.refl _ _).alloc (Nat.le_refl _) _
  have H3 := Lib.hid (H1.out.below hbx)
  have G3 := Lib.hid (G1.out.trans (Gr.of_below (M := M) hbx))
  have HB3 := Lib.hid (HB1.out.keep (Cells.of_below hbx))
  have R0 := Lib.hid ((hbx.block _ hs0).trans Q0.out)
  have R1 := Lib.hid ((hbx.block _ hsz).trans Q1.out)
  have R3 := Lib.hid ((hbx.block _ hs1).trans Q3.out)
  have R2 := Lib.hid hnew
  have HW1 := Lib.hid H1.out
  have HW1b := Lib.hid HB1.out
  have GW1 := Lib.hid G1.out
  have BW := Lib.hid hbx
  clear hnew hbx H1 G1 HB1 Q0 Q1 Q3 hg1 k0 k1 k3 hsz hs0 hs1 HM1
  generalize w1.alloc (.cells #[.int .i64 (d.length : Nat)] 3) = w3 at *
  generalize hnc : w1.heap.size = nc at *
  have Hnc := Lib.hid hnc
  clear hnc
  refine (of_any _ M S H3.out name (by unfold maxLen; omega) (hi.name_le hK name)).mono ?_
  rintro e w4 ⟨rfl, nn, rfl⟩
  have H4 := Lib.hid (H3.out.drewN nn)
  have G4 : Hid (Gr M w M (w3.drewN nn)) := Lib.hid (G3.out.trans ⟨(Fr.refl _ _).drewN nn, fun _ h => .inl h, rfl⟩)
  have R0 : Hid ((w3.drewN nn).heap[nb]? = some (.cells #[.pointer (some ⟨M.fb, 0, none⟩)] 25 (0, 0))) := R0
  have R1 : Hid ((w3.drewN nn).heap[nb + 1 + 1]? = some (.cells #[.slice A d.length c] 29 (0, 0))) := R1
  have R2 : Hid ((w3.drewN nn).heap[nc]? = some (.cells #[.int .i64 (d.length : Nat)] 3 (0, 0))) := R2
  have R3 : Hid ((w3.drewN nn).heap[nb + 1]? = some (.cells #[.string name] 9 (0, 0))) := R3
  have HB4 := Lib.hid (HB3.out.keep (Cells.drewN w3 nn))
  have BW4 := Lib.hid (Below.trans BW.out (show Below nc w3 (w3.drewN nn) from ⟨rfl, rfl, rfl, Nat.le_refl _, fun _ _ => rfl⟩))
  clear H3 G3 HB3 BW
  generalize w3.drewN nn = w4 at *
  have l0 : w4.cell? ⟨nb, 0, none⟩ = some (.pointer (some ⟨M.fb, 0, none⟩)) := box_cell R0.out
  have l2 : w4.cell? ⟨nc, 0, none⟩ = some (.int .i64 (d.length : Nat)) := box_cell R2.out
  cases hof : S.of name with
  | none =>
    have hpt : M.ptr none = .pointer none := rfl
    rw [hpt]
    go_wp2_with fail
    have hz := hi.size' hK
    have hmr : S.more name d.length = ((d.length : Int), 1) := by unfold FsSt.more; rw [hof]
    refine (full_any w4 M S H4.out (d.length : Nat) 1 hi.quota hz.1 hz.2 (by have := hi.names.size; omega)).mono ?_
    rintro e w5 ⟨rfl, n5, rfl⟩
    have H5 := Lib.hid (H4.out.drewN n5)
    have G5 : Hid (Gr M w M (w4.drewN n5)) := Lib.hid (G4.out.trans ⟨(Fr.refl _ _).drewN n5, fun _ h => .inl h, rfl⟩)
    have R0 : Hid ((w4.drewN n5).heap[nb]? = some (.cells #[.pointer (some ⟨M.fb, 0, none⟩)] 25 (0, 0))) := R0
    have R1 : Hid ((w4.drewN n5).heap[nb + 1 + 1]? = some (.cells #[.slice A d.length c] 29 (0, 0))) := R1
    have R2 : Hid ((w4.drewN n5).heap[nc]? = some (.cells #[.int .i64 ((d.length : Nat) : Int)] 3 (0, 0))) := R2
    have R3 : Hid ((w4.drewN n5).heap[nb + 1]? = some (.cells #[.string name] 9 (0, 0))) := R3
    have HB5 := Lib.hid (HB4.out.keep (Cells.drewN w4 n5))
    have hk0 : (w4.drewN n5).cell? ⟨nb, 0, none⟩ = some (.pointer (some ⟨M.fb, 0, none⟩)) := box_cell R0.out
    clear H4 G4 HB4
    generalize w4.drewN n5 = w5 at *
    by_cases hf : S.full ((d.length : Nat) : Int) 1 = true
    · rw [hf]
      go_wp2_with fail
      show P (.returned (.int .i64 4)) _
      rw [HP.out]
      unfold FsSt.write
      rw [hdn, hv, hmr]
      simp only [hf]
      exact ⟨rfl, M, H5.out, G5.out⟩
    have hf : S.full ((d.length : Nat) : Int) 1 = false := by simpa using hf
    rw [hf]
    go_wp2_with fail
    refine (write_of w5 M S (S.tick.write1 name d ((d.length : Nat) : Int)) H5.out 25 #[.pointer (some ⟨nb, 0, none⟩), .pointer (some ⟨nb + 1 + 1, 0, none⟩), .pointer (some ⟨nc, 0, none⟩), .pointer (some ⟨nb + 1, 0, none⟩)] enter_w1 hi.armed (by have := hi.steps; show S.steps ≤ _; omega) (fun _ wx hx fx => write1_any wx M S.tick hx name d A c ((d.length : Nat) : Int) nb (nb + 1 + 1) nc (nb + 1)
      (box_keptT fx R0.out boxFS) (box_keptT fx R1.out boxBytes) (box_keptT fx R2.out boxInt) (box_keptT fx R3.out boxStr)
      (HB5.out.out fx.fr fun hn a ha hh => ho hn a ha (by rw [List.mem_singleton.1 hh]; simp [FsMem.own])) ho (by omega) (by omega) (by have := hi.last; show S.last ≤ _; omega) (fun e he => (hi.rng e he).2) (by have := hi.many; show S.files.length ≤ _; omega) hz (by constructor <;> omega) (by have := hi.names.size; show Maps.size S.names ≤ _; omega) (by have := hi.pends; show S.pend.length ≤ _; omega))).mono ?_
    rintro e w6 ⟨rfl, M6, h6, g6⟩
    have Hfin : Hid (P (.returned (.int .i64 (S.wrErr : Nat))) w6) := Lib.hid (by
      rw [HP.out]
      unfold FsSt.write
      rw [hdn, hv, hmr]
      simp only [hf]
      exact ⟨rfl, M6, h6, G5.out.trans g6⟩)
    clear h6 g6
    go_wp2_with fail
    exact Hfin.out
  | some i =>
    obtain ⟨gf, hgf⟩ : ∃ gf, gf = (M.fl.getD i (0, undef)).1 := ⟨_, rfl⟩
    have hpt : M.ptr (some i) = .pointer (some ⟨gf, 0, none⟩) := by rw [hgf]; rfl
    have Hgf := Lib.hid hgf
    clear hgf
    rw [hpt]
    clear hpt
    go_wp2_with fail
    have hil := S.idx_lt hof
    have hfile := H4.out.fileAt hil
    obtain ⟨Af, cf, hfv⟩ := data_form hfile.2
    have hf0 := hfile.1
    rw [hfv, ← Hgf.out] at hf0
    have hlen : S.lenAt i = ((S.files.getD i (0, ⟨[], 0⟩)).2.d).length := rfl
    rw [← hlen] at hf0
    have hLK := hi.lenAt i
    have m0 : w4.drew.cell? ⟨nc, 0, none⟩ = some (.int .i64 (d.length : Nat)) := l2
    have m1 : w4.drew.cell? ⟨gf, 0, none⟩ = some (.slice Af (S.lenAt i) cf) := (blk_cells hf0).1 0
    have r1 : IntKind.i64.wrap ((d.length : Int) - (S.lenAt i : Nat)) = (d.length : Int) - (S.lenAt i : Nat) := by rw [IntKind.wrap_i64]; omega
    clear hfile hfv hf0 hlen
    generalize hLe : S.lenAt i = L at *
    with_reducible refine g_mixx [(0, 0), (1, 0), (2, 0), (3, 0), (4, 0), (5, 0), (6, 0), (7, 3), (8, 1)] (fun w' => w'.cell? ⟨nc, 0, none⟩ = some (.int .i64 (d.length : Nat)) ∧ w'.cell? ⟨gf, 0, none⟩ = some (.slice Af L cf)) 0 _ rfl (by kernel_rfl) (by kernel_rfl) ?_ ?_
    · exact ⟨m0, m1⟩
    intro OPS HD
    simp only [mixX, nthO, consX]
    iterate 7 ((with_reducible refine x_val (v := ?_) ?_ ?_ ?_); rotate_left; (rintro _ ⟨h1, h2⟩; (try simp only [r1]); go_simp; first | done | rfl | (constructor <;> rfl)); exact ⟨m0, m1⟩)
    have hb4 : w4.drew.heap[nc]? = some (.cells #[.int .i64 (d.length : Nat)] 3 (0, 0)) := R2.out
    have f0 : w4.drew.frozen? ⟨nc, 0, none⟩ = false := (blk_cells hb4).2.1 0
    have hst := heap_setCell_at hb4 0 (.int .i64 ((d.length : Int) - (L : Nat)))
    have hbw : Below nc w1 (w4.drew.setCell ⟨nc, 0, none⟩ (.int .i64 ((d.length : Int) - (L : Nat)))) := BW4.out.drew.setCell (Nat.le_refl _) _
    have hbw' : Below w1.heap.size w1 (w4.drew.setCell ⟨nc, 0, none⟩ (.int .i64 ((d.length : Int) - (L : Nat)))) := by rw [Hnc.out]; exact hbw
    have hfr : Fr [nc] w4 (w4.drew.setCell ⟨nc, 0, none⟩ (.int .i64 ((d.length : Int) - (L : Nat)))) := ((Fr.refl [nc] w4).drewN 1).trans (Fr.setCell _ _ _ _ (by simp))
    with_reducible refine x_three ?_
    with_reducible refine l_skip (w' := w4.drew.setCell ⟨nc, 0, none⟩ (.int .i64 ((d.length : Int) - (L : Nat)))) ?_ ?_
    · go_simp
    refine x_last ?_
    iterate 1 ((with_reducible refine x_any (v := ?_) ?_ ?_); rotate_left; (rintro _; go_simp; first | done | rfl | (constructor <;> rfl)))
    with_reducible refine x_end ?_
    simp only [Act.put, List.setIfInBounds_toArray, List.set_cons_zero, List.set_cons_succ]
    have H4' := Lib.hid (HW1.out.below hbw')
    have G4' := Lib.hid (GW1.out.trans (Gr.of_below (M := M) hbw'))
    have fixB : ∀ {b : Nat} {cs : Array Value} {t : TypeId}, b ≠ nc → w4.heap[b]? = some (.cells cs t (0, 0)) → (w4.drew.setCell ⟨nc, 0, none⟩ (.int .i64 ((d.length : Int) - (L : Nat)))).heap[b]? = some (.cells cs t (0, 0)) := fun {b cs t} hne hb => (hfr.block b (lt_of_heap hb) (by simpa using hne)).trans hb
    have R0' := Lib.hid (fixB (fun e => by rw [e] at R0; have h6 := R0.out; rw [R2.out] at h6; simp at h6) R0.out)
    have R1' := Lib.hid (fixB (fun e => by rw [e] at R1; have h6 := R1.out; rw [R2.out] at h6; simp at h6) R1.out)
    have R3' := Lib.hid (fixB (fun e => by rw [e] at R3; have h6 := R3.out; rw [R2.out] at h6; simp at h6) R3.out)
    have R2' := Lib.hid hst
    have HB4' := Lib.hid (HW1b.out.keep (Cells.of_below hbw'))
    clear H4 G4 R0 R1 R2 R3 HB4 hbw hbw' hfr hst fixB f0 hb4 m0 m1 l0 l2 BW4 HW1 GW1
    generalize w4.drew.setCell ⟨nc, 0, none⟩ (.int .i64 ((d.length : Int) - (L : Nat))) = w4 at *
    have H4 := H4'
    have G4 := G4'
    have R0 := R0'
    have R1 := R1'
    have R2 : Hid (w4.heap[nc]? = some (.cells #[.int .i64 ((d.length : Int) - (L : Nat))] 3 (0, 0))) := R2'
    have R3 := R3'
    have HB4 := HB4'
    have l0 : w4.cell? ⟨nb, 0, none⟩ = some (.pointer (some ⟨M.fb, 0, none⟩)) := box_cell R0.out
    have l2 : w4.cell? ⟨nc, 0, none⟩ = some (.int .i64 ((d.length : Int) - (L : Nat))) := box_cell R2.out
    clear H4' G4' R0' R1' R2' R3' HB4'
    go_wp2_with fail
    have hz := hi.size' hK
    have hmr : S.more name d.length = ((d.length : Int) - (L : Nat), 0) := by unfold FsSt.more; rw [hof, ← hLe]
    refine (full_any w4 M S H4.out ((d.length : Int) - (L : Nat)) 0 hi.quota hz.1 hz.2 (by have := hi.names.size; omega)).mono ?_
    rintro e w5 ⟨rfl, n5, rfl⟩
    have H5 := Lib.hid (H4.out.drewN n5)
    have G5 : Hid (Gr M w M (w4.drewN n5)) := Lib.hid (G4.out.trans ⟨(Fr.refl _ _).drewN n5, fun _ h => .inl h, rfl⟩)
    have R0 : Hid ((w4.drewN n5).heap[nb]? = some (.cells #[.pointer (some ⟨M.fb, 0, none⟩)] 25 (0, 0))) := R0
    have R1 : Hid ((w4.drewN n5).heap[nb + 1 + 1]? = some (.cells #[.slice A d.length c] 29 (0, 0))) := R1
    have R2 : Hid ((w4.drewN n5).heap[nc]? = some (.cells #[.int .i64 ((d.length : Int) - (L : Nat))] 3 (0, 0))) := R2
    have R3 : Hid ((w4.drewN n5).heap[nb + 1]? = some (.cells #[.string name] 9 (0, 0))) := R3
    have HB5 := Lib.hid (HB4.out.keep (Cells.drewN w4 n5))
    have hk0 : (w4.drewN n5).cell? ⟨nb, 0, none⟩ = some (.pointer (some ⟨M.fb, 0, none⟩)) := box_cell R0.out
    clear H4 G4 HB4
    generalize w4.drewN n5 = w5 at *
    by_cases hf : S.full ((d.length : Int) - (L : Nat)) 0 = true
    · rw [hf]
      go_wp2_with fail
      show P (.returned (.int .i64 4)) _
      rw [HP.out]
      unfold FsSt.write
      rw [hdn, hv, hmr]
      simp only [hf]
      exact ⟨rfl, M, H5.out, G5.out⟩
    have hf : S.full ((d.length : Int) - (L : Nat)) 0 = false := by simpa using hf
    rw [hf]
    go_wp2_with fail
    refine (write_of w5 M S (S.tick.write1 name d ((d.length : Int) - (L : Nat))) H5.out 25 #[.pointer (some ⟨nb, 0, none⟩), .pointer (some ⟨nb + 1 + 1, 0, none⟩), .pointer (some ⟨nc, 0, none⟩), .pointer (some ⟨nb + 1, 0, none⟩)] enter_w1 hi.armed (by have := hi.steps; show S.steps ≤ _; omega) (fun _ wx hx fx => write1_any wx M S.tick hx name d A c ((d.length : Int) - (L : Nat)) nb (nb + 1 + 1) nc (nb + 1)
      (box_keptT fx R0.out boxFS) (box_keptT fx R1.out boxBytes) (box_keptT fx R2.out boxInt) (box_keptT fx R3.out boxStr)
      (HB5.out.out fx.fr fun hn a ha hh => ho hn a ha (by rw [List.mem_singleton.1 hh]; simp [FsMem.own])) ho (by omega) (by omega) (by have := hi.last; show S.last ≤ _; omega) (fun e he => (hi.rng e he).2) (by have := hi.many; show S.files.length ≤ _; omega) hz (by omega) (by have := hi.names.size; show Maps.size S.names ≤ _; omega) (by have := hi.pends; show S.pend.length ≤ _; omega))).mono ?_
    rintro e w6 ⟨rfl, M6, h6, g6⟩
    have Hfin : Hid (P (.returned (.int .i64 (S.wrErr : Nat))) w6) := Lib.hid (by
      rw [HP.out]
      unfold FsSt.write
      rw [hdn, hv, hmr]
      simp only [hf]
      exact ⟨rfl, M6, h6, G5.out.trans g6⟩)
    clear h6 g6
    go_wp2_with fail
    exact Hfin.out
end Go.Proofs.YtaolddgnannojaaGreatDoor
