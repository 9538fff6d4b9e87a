/-
  Rename, Remove.
-/
import Derived.Test.YtaolddgnannojaaDoorFsLose
namespace Go.Proofs.YtaolddgnannojaaDoor
open Go.RowKit Go.Maps

attribute [local go_sem] lt1 lt2 lt3 lt4 lt5 lt6

theorem enter_r1 (args : Array Value) (w : World) : (callFunc 51 args).run Tryd.prog w = .ok (.enter 51 args) w := Go.MuLone.run_callFunc_enter Tryd.func51 (by kernel_rfl) rfl args w
theorem enter_m1 (args : Array Value) (w : World) : (callFunc 69 args).run Tryd.prog w = .ok (.enter 69 args) w := Go.MuLone.run_callFunc_enter Tryd.func69 (by kernel_rfl) rfl args w
def FsSt.rename (S : FsSt) (a b : ByteArray) : Nat × FsSt :=
  if S.down then (5, S) else if S.has a then if validF (toL b) then (S.wrErr, S.wrote (S.tick.rename1 a b)) else (1, S) else (2, S)
def FsSt.remove (S : FsSt) (a : ByteArray) : Nat × FsSt :=
  if S.down then (5, S) else if S.has a then (S.wrErr, S.wrote (S.tick.remove1 a)) else (2, S)
theorem rename1_steps (S : FsSt) (a b : ByteArray) : (S.rename1 a b).steps = S.steps := by
  unfold FsSt.rename1
  split
  · rfl
  · exact (lose_names S b).2.2
set_option maxHeartbeats 4000000 in
set_option maxRecDepth 10000 in
theorem fremove_any (w : World) (M : FsMem) (S : FsSt) (K : Nat) (h : FsAt w M S) (hi : FsInv K S) (hK : K ≤ 1048576) (name : ByteArray) (hn : name.size ≤ 1048576) :
    Calls Tryd.prog 56 #[.pointer (some ⟨M.fb, 0, none⟩), .string name] w (WrPost w M (S.remove name).2 (S.remove name).1) := by
  obtain ⟨P, hP⟩ : ∃ P, P = WrPost w M (S.remove name).2 (S.remove name).1 := ⟨_, rfl⟩
  rw [← hP]
  have HP := Lib.hid hP
  have H := Lib.hid h
  have c9 : w.cell? ⟨M.fb, 9, none⟩ = some (.bool S.down) := (h.cell 9 _ rfl).1
  have hfb := h.lt M.fb (by simp [FsMem.own])
  clear hP h
  have hB0 : Below w.heap.size w ((w.alloc (.cells #[.pointer (some ⟨M.fb, 0, none⟩)] 24)).alloc (.cells #[.string name] 9)) := ((Below.refl w.heap.size w).alloc (Nat.le_refl _) _).alloc (by simp) _
  have H0 := Lib.hid (H.out.below hB0)
  have G0 := Lib.hid (Gr.of_below (M := M) hB0)
  by_cases hdn : S.down = true
  · rw [hdn] at c9
    go_enter Tryd.func56, Tryd.ntmps56
    go_wp2_with fail
    show P (.returned (.int .i64 5)) _
    rw [HP.out]
    unfold FsSt.remove
    rw [if_pos hdn]
    exact ⟨rfl, M, H0.out, G0.out⟩
  have hdn : S.down = false := by simpa using hdn
  rw [hdn] at c9
  go_enter Tryd.func56, Tryd.ntmps56
  go_wp2_with fail
  refine (has_any _ M S H0.out name (by unfold maxLen; omega) (hi.name_le hK name)).mono ?_
  rintro e w1 ⟨rfl, nn, rfl⟩
  have q0 : ((w.alloc (.cells #[.pointer (some ⟨M.fb, 0, none⟩)] 24)).alloc (.cells #[.string name] 9)).heap[w.heap.size]? = some (.cells #[.pointer (some ⟨M.fb, 0, none⟩)] 24 (0, 0)) := (Below.heap_alloc _ _ w.heap.size (by simp)).trans (heap_alloc_new w _)
  have q1 : ((w.alloc (.cells #[.pointer (some ⟨M.fb, 0, none⟩)] 24)).alloc (.cells #[.string name] 9)).heap[w.heap.size + 1]? = some (.cells #[.string name] 9 (0, 0)) := by
    simpa using heap_alloc_new (w.alloc (.cells #[.pointer (some ⟨M.fb, 0, none⟩)] 24)) (.cells #[.string name] 9)
  have Q0 := Lib.hid q0
  have Q1 := Lib.hid q1
  clear q0 q1 hB0 H c9
  generalize (w.alloc (.cells #[.pointer (some ⟨M.fb, 0, none⟩)] 24)).alloc (.cells #[.string name] 9) = w0 at *
  generalize w.heap.size = nb at *
  have H1 := Lib.hid (H0.out.drewN nn)
  have G1 := Lib.hid (G0.out.trans (Gr.drewN M w0 nn))
  have R0 : Hid ((w0.drewN nn).heap[nb]? = some (.cells #[.pointer (some ⟨M.fb, 0, none⟩)] 24 (0, 0))) := Q0
  have R1 : Hid ((w0.drewN nn).heap[nb + 1]? = some (.cells #[.string name] 9 (0, 0))) := Q1
  have c0 := box_cell R0.out
  clear Q0 Q1 H0 G0
  generalize w0.drewN nn = w1 at *
  by_cases hh : S.has name = false
  · rw [hh]
    go_wp2_with fail
    show P (.returned (.int .i64 2)) _
    rw [HP.out]
    unfold FsSt.remove
    rw [hdn, hh]
    exact ⟨rfl, M, H1.out, G1.out⟩
  have hh : S.has name = true := by simpa using hh
  rw [hh]
  go_wp2_with fail
  have hz := hi.size' hK
  refine (write_of _ M S (S.tick.remove1 name) H1.out 69 #[.pointer (some ⟨nb, 0, none⟩), .pointer (some ⟨nb + 1, 0, none⟩)] enter_m1 hi.armed (by have := hi.steps; rw [show (S.tick.remove1 name).steps = S.steps from (lose_names S.tick name).2.2]; omega) (fun _ wx hx fx => remove1_any wx M S.tick hx name nb (nb + 1) (box_keptT fx R0.out boxFS) (box_keptT fx R1.out boxStr) hn (hi.name_le hK name) hz (fun i => by have := hi.lenAt i; show S.lenAt i ≤ _; omega) (by have := hi.names.size; show Maps.size S.names ≤ _; omega) (by have := hi.pends; show S.pend.length ≤ _; omega))).mono ?_
  rintro e w6 ⟨rfl, M6, h6, g6⟩
  have Hfin : Hid (P (.returned (.int .i64 (S.wrErr : Nat))) w6) := Lib.hid (by
    rw [HP.out]
    unfold FsSt.remove
    rw [hdn, hh]
    exact ⟨rfl, M6, h6, G1.out.trans g6⟩)
  clear h6 g6
  go_wp2_with fail
  exact Hfin.out
set_option maxHeartbeats 4000000 in
set_option maxRecDepth 10000 in
theorem frename_any (w : World) (M : FsMem) (S : FsSt) (K : Nat) (h : FsAt w M S) (hi : FsInv K S) (hK : K ≤ 1048576) (hm : MaxL w) (a b : ByteArray) (ha : a.size ≤ 1048576) (hb : b.size ≤ 1048576) :
    Calls Tryd.prog 23 #[.pointer (some ⟨M.fb, 0, none⟩), .string a, .string b] w (WrPost w M (S.rename a b).2 (S.rename a b).1) := by
  obtain ⟨P, hP⟩ : ∃ P, P = WrPost w M (S.rename a b).2 (S.rename a b).1 := ⟨_, rfl⟩
  rw [← hP]
  have HP := Lib.hid hP
  have H := Lib.hid h
  have HM := Lib.hid hm
  have c9 : w.cell? ⟨M.fb, 9, none⟩ = some (.bool S.down) := (h.cell 9 _ rfl).1
  have hfb := h.lt M.fb (by simp [FsMem.own])
  clear hP h hm
  have hB0 : Below w.heap.size w (((w.alloc (.cells #[.pointer (some ⟨M.fb, 0, none⟩)] 24)).alloc (.cells #[.string a] 9)).alloc (.cells #[.string b] 9)) := (((Below.refl w.heap.size w).alloc (Nat.le_refl _) _).alloc (by simp) _).alloc (by simp; omega) _
  have H0 := Lib.hid (H.out.below hB0)
  have G0 := Lib.hid (Gr.of_below (M := M) hB0)
  by_cases hdn : S.down = true
  · rw [hdn] at c9
    go_enter Tryd.func23, Tryd.ntmps23
    go_wp2_with fail
    show P (.returned (.int .i64 5)) _
    rw [HP.out]
    unfold FsSt.rename
    rw [if_pos hdn]
    exact ⟨rfl, M, H0.out, G0.out⟩
  have hdn : S.down = false := by simpa using hdn
  rw [hdn] at c9
  go_enter Tryd.func23, Tryd.ntmps23
  go_wp2_with fail
  refine (has_any _ M S H0.out a (by unfold maxLen; omega) (hi.name_le hK a)).mono ?_
  rintro e w1 ⟨rfl, nn, rfl⟩
  have HM0 := Lib.hid (HM.out.below hB0)
  have q0 : (((w.alloc (.cells #[.pointer (some ⟨M.fb, 0, none⟩)] 24)).alloc (.cells #[.string a] 9)).alloc (.cells #[.string b] 9)).heap[w.heap.size]? = some (.cells #[.pointer (some ⟨M.fb, 0, none⟩)] 24 (0, 0)) := (Below.heap_alloc _ _ w.heap.size (by simp; omega)).trans ((Below.heap_alloc _ _ w.heap.size (by simp)).trans (heap_alloc_new w _))
  have q1 : (((w.alloc (.cells #[.pointer (some ⟨M.fb, 0, none⟩)] 24)).alloc (.cells #[.string a] 9)).alloc (.cells #[.string b] 9)).heap[w.heap.size + 1]? = some (.cells #[.string a] 9 (0, 0)) := (Below.heap_alloc _ _ _ (by simp)).trans (by
    simpa using heap_alloc_new (w.alloc (.cells #[.pointer (some ⟨M.fb, 0, none⟩)] 24)) (.cells #[.string a] 9))
  have q2 : (((w.alloc (.cells #[.pointer (some ⟨M.fb, 0, none⟩)] 24)).alloc (.cells #[.string a] 9)).alloc (.cells #[.string b] 9)).heap[w.heap.size + 1 + 1]? = some (.cells #[.string b] 9 (0, 0)) := by
    simpa using heap_alloc_new ((w.alloc (.cells #[.pointer (some ⟨M.fb, 0, none⟩)] 24)).alloc (.cells #[.string a] 9)) (.cells #[.string b] 9)
  have Q0 := Lib.hid q0
  have Q1 := Lib.hid q1
  have Q2 := Lib.hid q2
  clear q0 q1 q2 hB0 H c9 HM
  generalize ((w.alloc (.cells #[.pointer (some ⟨M.fb, 0, none⟩)] 24)).alloc (.cells #[.string a] 9)).alloc (.cells #[.string b] 9) = w0 at *
  generalize w.heap.size = nb at *
  have H1 := Lib.hid (H0.out.drewN nn)
  have G1 := Lib.hid (G0.out.trans (Gr.drewN M w0 nn))
  have R0 : Hid ((w0.drewN nn).heap[nb]? = some (.cells #[.pointer (some ⟨M.fb, 0, none⟩)] 24 (0, 0))) := Q0
  have R1 : Hid ((w0.drewN nn).heap[nb + 1]? = some (.cells #[.string a] 9 (0, 0))) := Q1
  have R2 : Hid ((w0.drewN nn).heap[nb + 1 + 1]? = some (.cells #[.string b] 9 (0, 0))) := Q2
  have HM1 := Lib.hid (HM0.out.keep (Cells.drewN w0 nn))
  have c0 := box_cell R0.out
  have c2 := box_cell R2.out
  clear Q0 Q1 Q2 H0 G0 HM0
  generalize w0.drewN nn = w1 at *
  by_cases hh : S.has a = false
  · rw [hh]
    go_wp2_with fail
    show P (.returned (.int .i64 2)) _
    rw [HP.out]
    unfold FsSt.rename
    rw [hdn, hh]
    exact ⟨rfl, M, H1.out, G1.out⟩
  have hh : S.has a = true := by simpa using hh
  rw [hh]
  go_wp2_with fail
  refine (valid_any _ b hb HM1.out).mono ?_
  rintro e w2 ⟨rfl, hb2⟩
  have H2 := Lib.hid (H1.out.below hb2)
  have G2 := Lib.hid (G1.out.trans (Gr.of_below (M := M) hb2))
  have T0 := Lib.hid ((hb2.block _ (lt_of_heap R0.out)).trans R0.out)
  have T1 := Lib.hid ((hb2.block _ (lt_of_heap R1.out)).trans R1.out)
  have T2 := Lib.hid ((hb2.block _ (lt_of_heap R2.out)).trans R2.out)
  have t0 := box_cell T0.out
  clear hb2 c0 c2 R0 R1 R2 H1 G1 HM1
  by_cases hv : validF (toL b) = false
  · rw [hv]
    go_wp2_with fail
    show P (.returned (.int .i64 1)) _
    rw [HP.out]
    unfold FsSt.rename
    rw [hdn, hh, hv]
    exact ⟨rfl, M, H2.out, G2.out⟩
  have hv : validF (toL b) = true := by simpa using hv
  rw [hv]
  go_wp2_with fail
  have hz := hi.size' hK
  refine (write_of _ M S (S.tick.rename1 a b) H2.out 51 #[.pointer (some ⟨nb + 1, 0, none⟩), .pointer (some ⟨nb + 1 + 1, 0, none⟩), .pointer (some ⟨nb, 0, none⟩)] enter_r1 hi.armed (by have := hi.steps; rw [rename1_steps]; show S.steps ≤ _; omega) (fun _ wx hx fx => rename1_any wx M S.tick hx a b (nb + 1) (nb + 1 + 1) nb (box_keptT fx T1.out boxStr) (box_keptT fx T2.out boxStr) (box_keptT fx T0.out boxFS) ha hb (hi.name_le hK a) (hi.name_le hK b) hz (fun i => by have := hi.lenAt i; show S.lenAt i ≤ _; omega) (by have := hi.names.size; show Maps.size S.names ≤ _; omega) (by have := hi.pends; show S.pend.length ≤ _; omega))).mono ?_
  rintro e w6 ⟨rfl, M6, h6, g6⟩
  have Hfin : Hid (P (.returned (.int .i64 (S.wrErr : Nat))) w6) := Lib.hid (by
    rw [HP.out]
    unfold FsSt.rename
    rw [hdn, hh, hv]
    exact ⟨rfl, M6, h6, G2.out.trans g6⟩)
  clear h6 g6
  go_wp2_with fail
  exact Hfin.out
end Go.Proofs.YtaolddgnannojaaDoor
