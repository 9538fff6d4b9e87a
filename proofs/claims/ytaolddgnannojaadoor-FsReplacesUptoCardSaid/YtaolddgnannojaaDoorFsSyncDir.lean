/-
  SyncDir; Arm, Size, Steps, Down, Read.
-/
import Derived.Test.YtaolddgnannojaaDoorFsSync
namespace Go.Proofs.YtaolddgnannojaaDoor
open Go.RowKit Go.Maps

attribute [local go_sem] lt1 lt2 lt3 lt4 lt5 lt6

theorem FsInv.tick {K : Nat} {S : FsSt} (h : FsInv K S) : FsInv K S.tick :=
  ⟨h.quota, h.last, h.ord, h.rng, h.many, h.sy, ⟨h.names.size, h.names.short, h.names.has, h.names.most⟩, ⟨h.dur.size, h.dur.short, h.dur.has, h.dur.most⟩, h.pends, h.pend, h.size, h.steps, by have := h.armed; show S.armed - 1 ≤ _; omega⟩
def FsSt.syncdir (S : FsSt) (dir : ByteArray) : Nat × FsSt :=
  if S.down then (5, S) else if dir.size ≠ 0 ∧ validF (toL dir) = false then (1, S) else (S.wrErr, S.wrote (S.tick.syncdir1 dir))
theorem enter_d1 (args : Array Value) (w : World) : (callFunc 48 args).run Tryd.prog w = .ok (.enter 48 args) w := Go.MuLone.run_callFunc_enter Tryd.func48 (by kernel_rfl) rfl args w
set_option maxHeartbeats 4000000 in
set_option maxRecDepth 10000 in
theorem fsyncdir_any (w : World) (M : FsMem) (S : FsSt) (K : Nat) (h : FsAt w M S) (hi : FsInv K S) (hK : K ≤ 1048576) (hr : DurRoom S S.pend.length) (hm : MaxL w) (dir : ByteArray) (hn : dir.size ≤ 1048576) :
    Calls Tryd.prog 20 #[.pointer (some ⟨M.fb, 0, none⟩), .string dir] w (WrPost w M (S.syncdir dir).2 (S.syncdir dir).1) := by
  obtain ⟨P, hP⟩ : ∃ P, P = WrPost w M (S.syncdir dir).2 (S.syncdir dir).1 := ⟨_, rfl⟩
  rw [← hP]
  have HP := Lib.hid hP
  have H := Lib.hid h
  have c9 : w.cell? ⟨M.fb, 9, none⟩ = some (.bool S.down) := (h.cell 9 _ rfl).1
  have hfb := h.lt M.fb (by simp [FsMem.own])
  have HM := Lib.hid hm
  clear hP h hm
  have hB0 : Below w.heap.size w ((w.alloc (.cells #[.pointer (some ⟨M.fb, 0, none⟩)] 24)).alloc (.cells #[.string dir] 9)) := ((Below.refl w.heap.size w).alloc (Nat.le_refl _) _).alloc (by simp) _
  have H0 := Lib.hid (H.out.below hB0)
  have G0 := Lib.hid (Gr.of_below (M := M) hB0)
  have HM0 := Lib.hid (HM.out.below hB0)
  by_cases hdn : S.down = true
  · rw [hdn] at c9
    go_enter Tryd.func20, Tryd.ntmps20
    go_wp2_with fail
    show P (.returned (.int .i64 5)) _
    rw [HP.out]
    unfold FsSt.syncdir
    rw [if_pos hdn]
    exact ⟨rfl, M, H0.out, G0.out⟩
  have hdn : S.down = false := by simpa using hdn
  rw [hdn] at c9
  have q0 : ((w.alloc (.cells #[.pointer (some ⟨M.fb, 0, none⟩)] 24)).alloc (.cells #[.string dir] 9)).heap[w.heap.size]? = some (.cells #[.pointer (some ⟨M.fb, 0, none⟩)] 24 (0, 0)) := (Below.heap_alloc _ _ w.heap.size (by simp)).trans (heap_alloc_new w _)
  have q1 : ((w.alloc (.cells #[.pointer (some ⟨M.fb, 0, none⟩)] 24)).alloc (.cells #[.string dir] 9)).heap[w.heap.size + 1]? = some (.cells #[.string dir] 9 (0, 0)) := by
    simpa using heap_alloc_new (w.alloc (.cells #[.pointer (some ⟨M.fb, 0, none⟩)] 24)) (.cells #[.string dir] 9)
  have Q0 := Lib.hid q0
  have Q1 := Lib.hid q1
  clear q0 q1 hB0 HM
  have tail : ∀ w1, FsAt w1 M S → Gr M w M w1 → w1.heap[w.heap.size]? = some (.cells #[.pointer (some ⟨M.fb, 0, none⟩)] 24 (0, 0)) → w1.heap[w.heap.size + 1]? = some (.cells #[.string dir] 9 (0, 0)) → ¬ (dir.size ≠ 0 ∧ validF (toL dir) = false) →
      Calls Tryd.prog 36 #[.pointer (some ⟨M.fb, 0, none⟩), .func (.func 48) #[] #[.pointer (some ⟨w.heap.size, 0, none⟩), .pointer (some ⟨w.heap.size + 1, 0, none⟩)]] w1 fun e w6 => e = .returned (.int .i64 (S.wrErr : Nat)) ∧ P (.returned (.int .i64 (S.wrErr : Nat))) w6 := fun w1 h1 g1 r0 r1 hno => by
    refine (write_of w1 M S (S.tick.syncdir1 dir) h1 48 #[.pointer (some ⟨w.heap.size, 0, none⟩), .pointer (some ⟨w.heap.size + 1, 0, none⟩)] enter_d1 hi.armed (by have := hi.steps; show S.steps ≤ _; omega) (fun _ wx hx fx => syncdir1_any wx M S.tick K hx hi.tick hK hr dir w.heap.size (w.heap.size + 1) (box_keptT fx r0 boxFS) (box_keptT fx r1 boxStr))).mono ?_
    rintro e w6 ⟨rfl, M6, h6, g6⟩
    refine ⟨rfl, ?_⟩
    rw [HP.out]
    unfold FsSt.syncdir
    rw [if_neg (by rw [hdn]; simp), if_neg hno]
    exact ⟨rfl, M6, h6, g1.trans g6⟩
  have Tail := Lib.hid tail
  clear tail
  by_cases hz : dir.size = 0
  · have hd0 : dir = ⟨#[]⟩ := by
      cases dir with
      | mk d => exact congrArg _ (Array.eq_empty_of_size_eq_zero hz)
    have hq : (dir.toList == []) = true := by rw [hd0, toList_toL]; rfl
    have t1 := Tail.out _ H0.out G0.out Q0.out Q1.out (fun h => h.1 hz)
    have T1 := Lib.hid t1
    clear t1 Tail hd0 hz
    go_enter Tryd.func20, Tryd.ntmps20
    go_wp2_with fail
    refine T1.out.mono ?_
    rintro e w6 ⟨rfl, hf⟩
    go_wp2_with fail
    exact hf
  · have hq : (dir.toList == []) = false := by
      rw [beq_eq_false_iff_ne, toList_toL]
      intro e
      have := congrArg List.length e
      rw [toL_len] at this
      exact hz this
    go_enter Tryd.func20, Tryd.ntmps20
    go_wp2_with fail
    refine (valid_any _ dir hn HM0.out).mono ?_
    rintro e w2 ⟨rfl, hb2⟩
    have R0 := Lib.hid ((hb2.block _ (lt_of_heap Q0.out)).trans Q0.out)
    have R1 := Lib.hid ((hb2.block _ (lt_of_heap Q1.out)).trans Q1.out)
    have H2 := Lib.hid (H0.out.below hb2)
    have G2 := Lib.hid (G0.out.trans (Gr.of_below (M := M) hb2))
    have r0 := box_cell R0.out
    clear hb2
    by_cases hv : validF (toL dir) = false
    · rw [hv]
      go_wp2_with fail
      show P (.returned (.int .i64 1)) _
      rw [HP.out]
      unfold FsSt.syncdir
      rw [if_neg (by rw [hdn]; simp), if_pos ⟨hz, hv⟩]
      exact ⟨rfl, M, H2.out, G2.out⟩
    · have t1 := Tail.out _ H2.out G2.out R0.out R1.out (fun h => hv h.2)
      have T1 := Lib.hid t1
      have hv : validF (toL dir) = true := by simpa using hv
      rw [hv]
      clear t1 Tail hz
      go_wp2_with fail
      refine T1.out.mono ?_
      rintro e w6 ⟨rfl, hf⟩
      go_wp2_with fail
      exact hf
end Go.Proofs.YtaolddgnannojaaDoor
