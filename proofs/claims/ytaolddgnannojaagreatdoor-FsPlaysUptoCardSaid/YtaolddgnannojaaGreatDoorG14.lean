/-
  SyncDir.
  SyncDir; Arm, Size, Steps, Down, Read.
  New, Arm, Size, Steps, Down, Read.
-/
import Derived.Test.YtaolddgnannojaaGreatDoorFsSettle
namespace Go.Proofs.YtaolddgnannojaaGreatDoor
open Go.RowKit Go.Maps

attribute [local go_sem] lt1 lt2 lt3 lt4 lt5 lt6

def noPend : Pend := ⟨⟨#[]⟩, 0, .del ⟨#[]⟩⟩
/-- how many changes there are up to the last one of a directory -/
def lastN (ps : List Pend) (dir : ByteArray) : Nat → Nat
  | 0 => 0
  | n + 1 => if (ps.getD n noPend).dir = dir then n + 1 else lastN ps dir n
theorem lastN_le (ps : List Pend) (dir : ByteArray) : ∀ n, lastN ps dir n ≤ n
  | 0 => Nat.le_refl _
  | n + 1 => by
    unfold lastN
    split
    · omega
    · have := lastN_le ps dir n; omega
def FsSt.syncdir1 (S : FsSt) (dir : ByteArray) : FsSt := S.settle (lastN S.pend dir S.pend.length)
def SdRel (S : FsSt) (dir : ByteArray) (w : World) (v : Value) (wr : World) : Prop :=
  ∃ n, n ≤ S.pend.length ∧ v = .int .i64 (n : Nat) ∧ lastN S.pend dir S.pend.length = lastN S.pend dir n ∧ ∃ d, wr = w.drewN d
set_option maxHeartbeats 4000000 in
set_option maxRecDepth 10000 in
theorem syncdir1_any (w : World) (M : FsMem) (S : FsSt) (K : Nat) (h : FsAt w M S) (hi : FsInv K S) (hK : K ≤ 1048576) (hr : DurRoom S S.pend.length) (dir : ByteArray) (b0 b1 : Nat)
    (h0 : w.heap[b0]? = some (.cells #[.pointer (some ⟨M.fb, 0, none⟩)] 25 (0, 0))) (h1 : w.heap[b1]? = some (.cells #[.string dir] 9 (0, 0))) :
    Calls Tryz.prog 62 #[.pointer (some ⟨b0, 0, none⟩), .pointer (some ⟨b1, 0, none⟩)] w (ChsPost w M (S.syncdir1 dir)) := by
  obtain ⟨P, hP⟩ : ∃ P, P = ChsPost w M (S.syncdir1 dir) := ⟨_, rfl⟩
  rw [← hP]
  have HP := Lib.hid hP
  have k0 := box_cell h0
  have H := Lib.hid h
  have X0 := Lib.hid h0
  have X1 := Lib.hid h1
  obtain ⟨cs, p1, p2⟩ := h.pend
  obtain ⟨Ap, cp, hpv, hsl, hz⟩ := row_slk p2
  have c6 : w.cell? ⟨M.fb, 6, none⟩ = some (.slice Ap S.pend.length cp) := by rw [← hpv]; exact (blk_cells h.blk).1 6
  have hpl := hi.pends
  have Hpv := Lib.hid hpv
  clear h h0 h1 hP p1 p2 hsl hz hpv
  go_enter Tryz.func62, Tryz.ntmps62
  go_wp2_with fail
  go_loopw [2] (fun v wr => SdRel S dir w v wr) (fun v _ => (intOf v).toNat)
  case atStart => exact ⟨_, Nat.le_refl _, rfl, rfl, 0, rfl⟩
  case round =>
    obtain ⟨n, hn, rfl, hlast, d, rfl⟩ := hrel
    cases n with
    | zero =>
      have e0 : ((0 : Nat) : Int) = 0 := rfl
      have d0 : (w.drewN d).drew.cell? ⟨b0, 0, none⟩ = some (.pointer (some ⟨M.fb, 0, none⟩)) := k0
      go_wp2_with fail
      with_reducible refine g_mixx [(0, 0), (1, 0), (2, 0), (3, 0), (4, 0), (5, 0), (6, 0), (7, 0), (8, 0), (9, 0), (10, 0), (11, 0), (12, 0), (13, 0), (14, 0)] (fun w' => w'.cell? ⟨b0, 0, none⟩ = some (.pointer (some ⟨M.fb, 0, none⟩))) 2 _ rfl (by kernel_rfl) (by kernel_rfl) ?_ ?_
      · exact d0
      intro OPS HD
      have HD : (OPS[2]?).bind (·.dst) = some 10 := HD
      simp only [mixX, nthO, consX]
      iterate 3 ((with_reducible refine x_val (v := ?_) ?_ ?_ ?_); rotate_left; (rintro _ h1; go_simp; first | done | rfl | (constructor <;> rfl)); exact d0)
      iterate 11 (with_reducible refine x_outg (c := false) HD (by go_simp) rfl d0 ?_)
      iterate 1 ((with_reducible refine x_val (v := ?_) ?_ ?_ ?_); rotate_left; (rintro _ h1; go_simp; first | done | rfl | (constructor <;> rfl)); exact d0)
      with_reducible refine x_end ?_
      simp only [Act.put, List.setIfInBounds_toArray, List.set_cons_zero, List.set_cons_succ]
      have Y0 : Hid ((w.drewN d).drew.heap[b0]? = some (.cells #[.pointer (some ⟨M.fb, 0, none⟩)] 25 (0, 0))) := X0
      have H1 : Hid (FsAt (w.drewN d).drew M S) := Lib.hid ((H.out.drewN d).drewN 1)
      have G1 : Hid (Gr M w M (w.drewN d).drew) := Lib.hid ((Gr.drewN M w d).trans (Gr.drewN M (w.drewN d) 1))
      clear d0 k0 c6
      generalize (w.drewN d).drew = w1 at *
      have k0 := box_cell Y0.out
      have hrr : DurRoom S 0 := fun k hk => hr k (by omega)
      have hst := settle_any w1 M S K H1.out hi hK 0 (by omega) hrr
      have Hst := Lib.hid hst
      clear hst hrr
      go_wp2_with fail
      refine Hst.out.mono ?_
      rintro e w2 ⟨rfl, M2, h2, g2⟩
      have Hfin : Hid (P (.returned (.tuple #[])) w2) := Lib.hid (by
        rw [HP.out]
        unfold FsSt.syncdir1
        rw [hlast]
        exact ⟨rfl, M2, h2, G1.out.trans g2⟩)
      clear h2 g2 Hst
      go_wp2_with fail
      go_end0
      exact Hfin.out
    | succ n =>
      obtain ⟨p, hp⟩ : ∃ p, S.pend[n]? = some p := ⟨_, List.getElem?_eq_getElem (by omega)⟩
      obtain ⟨g, c', v, hpe, e1, _, _, _⟩ := H.out.pend_at (k := n) (p := p) hp
      rw [Hpv.out] at hpe
      simp only [Value.slice.injEq, true_and] at hpe
      obtain ⟨hA, hcc⟩ := hpe
      subst hA
      clear hcc
      have hgd : S.pend.getD n noPend = p := by rw [List.getD_eq_getElem?_getD, hp]; rfl
      have e0 : ((n + 1 : Nat) : Int) = (n : Int) + 1 := by omega
      have r1 : IntKind.i64.wrap (n : Int) = n := by rw [IntKind.wrap_i64]; omega
      have r2 : (n : Int) < S.pend.length := by omega
      have d0 : (w.drewN d).drew.cell? ⟨b0, 0, none⟩ = some (.pointer (some ⟨M.fb, 0, none⟩)) := k0
      have d1 : (w.drewN d).drew.cell? ⟨b1, 0, none⟩ = some (.string dir) := box_cell X1.out
      have d6 : (w.drewN d).drew.cell? ⟨M.fb, 6, none⟩ = some (.slice (some ⟨g, 0, none⟩) S.pend.length cp) := c6
      have dp : (w.drewN d).drew.cell? ⟨g, n * 3, none⟩ = some (.string p.dir) := e1
      rw [e0]
      go_wp2_with fail
      with_reducible refine g_mixx [(0, 0), (1, 0), (2, 0), (3, 0), (4, 0), (5, 0), (6, 0), (7, 0), (8, 0), (9, 0), (10, 0), (11, 0), (12, 0), (13, 0), (14, 0)] (fun w' => (w'.cell? ⟨b0, 0, none⟩ = some (.pointer (some ⟨M.fb, 0, none⟩)) ∧ w'.cell? ⟨b1, 0, none⟩ = some (.string dir)) ∧ w'.cell? ⟨M.fb, 6, none⟩ = some (.slice (some ⟨g, 0, none⟩) S.pend.length cp) ∧ w'.cell? ⟨g, n * 3, none⟩ = some (.string p.dir)) 2 _ rfl (by kernel_rfl) (by kernel_rfl) ?_ ?_
      · exact ⟨⟨d0, d1⟩, d6, dp⟩
      intro OPS HD
      have HD : (OPS[2]?).bind (·.dst) = some 10 := HD
      simp only [mixX, nthO, consX]
      iterate 3 ((with_reducible refine x_val (v := ?_) ?_ ?_ ?_); rotate_left; (rintro _ ⟨⟨h1, h2⟩, h3, h4⟩; (try simp only [r1]); go_simp; first | done | rfl | (constructor <;> rfl)); exact ⟨⟨d0, d1⟩, d6, dp⟩)
      iterate 11 ((with_reducible refine x_valg (v := ?_) HD ?_ ?_ ?_ ?_); rotate_left; go_simp; (rintro _ ⟨⟨h1, h2⟩, h3, h4⟩; (try simp only [r1, r2]); go_simp; first | done | rfl | (constructor <;> rfl)); exact ⟨⟨d0, d1⟩, d6, dp⟩)
      iterate 1 ((with_reducible refine x_val (v := ?_) ?_ ?_ ?_); rotate_left; (rintro _ ⟨⟨h1, h2⟩, h3, h4⟩; go_simp; first | done | rfl | (constructor <;> rfl)); exact ⟨⟨d0, d1⟩, d6, dp⟩)
      with_reducible refine x_end ?_
      simp only [Act.put, List.setIfInBounds_toArray, List.set_cons_zero, List.set_cons_succ]
      clear d0 d1 d6 dp e1
      by_cases hd : p.dir = dir
      · have hq : (p.dir.toList == dir.toList) = true := by rw [hd]; simp
        have hln : lastN S.pend dir (n + 1) = n + 1 := by
          rw [lastN, hgd, if_pos hd]
        rw [hq]
        clear hq
        have Y0 : Hid ((w.drewN d).drew.heap[b0]? = some (.cells #[.pointer (some ⟨M.fb, 0, none⟩)] 25 (0, 0))) := X0
        have H1 : Hid (FsAt (w.drewN d).drew M S) := Lib.hid ((H.out.drewN d).drewN 1)
        have G1 : Hid (Gr M w M (w.drewN d).drew) := Lib.hid ((Gr.drewN M w d).trans (Gr.drewN M (w.drewN d) 1))
        clear k0 c6
        generalize (w.drewN d).drew = w1 at *
        have k0 := box_cell Y0.out
        have hrr : DurRoom S (n + 1) := fun k hk => hr k (by omega)
        have hst := settle_any w1 M S K H1.out hi hK (n + 1) hn hrr
        have Hst := Lib.hid hst
        clear hst hrr
        go_wp2_with fail
        refine Hst.out.mono ?_
        rintro e w2 ⟨rfl, M2, h2, g2⟩
        have Hfin : Hid (P (.returned (.tuple #[])) w2) := Lib.hid (by
          rw [HP.out]
          unfold FsSt.syncdir1
          rw [hlast, hln]
          exact ⟨rfl, M2, h2, G1.out.trans g2⟩)
        clear h2 g2 Hst
        go_wp2_with fail
        go_end0
        exact Hfin.out
      · have hq : (p.dir.toList == dir.toList) = false := by
          rw [beq_eq_false_iff_ne]
          intro e
          rw [toList_toL, toList_toL] at e
          exact hd (toL_inj e)
        have hln : lastN S.pend dir (n + 1) = lastN S.pend dir n := by
          rw [lastN, hgd, if_neg hd]
        rw [hq]
        clear hq
        have Hfin : Hid (SdRel S dir w (.int .i64 (n : Nat)) (w.drewN d).drew) := Lib.hid ⟨n, by omega, rfl, by rw [hlast, hln], d + 1, rfl⟩
        go_wp2_with fail
        go_roundw
        case rel => exact Hfin.out
        case measure => simp [intOf]
end Go.Proofs.YtaolddgnannojaaGreatDoor
namespace Go.Proofs.YtaolddgnannojaaGreatDoor
open Go.RowKit Go.Maps

attribute [local go_sem] lt1 lt2 lt3 lt4 lt5 lt6

theorem FsInv.tick {K : Nat} {S : FsSt} (h : FsInv K S) : FsInv K S.tick :=
  ⟨h.quota, h.last, h.ord, h.rng, h.many, h.sy, ⟨h.names.size, h.names.short, h.names.has, h.names.most⟩, ⟨h.dur.size, h.dur.short, h.dur.has, h.dur.most⟩, h.pends, h.pend, h.size, h.steps, by have := h.armed; show S.armed - 1 ≤ _; omega⟩
def FsSt.syncdir (S : FsSt) (dir : ByteArray) : Nat × FsSt :=
  if S.down then (5, S) else if dir.size ≠ 0 ∧ validF (toL dir) = false then (1, S) else (S.wrErr, S.wrote (S.tick.syncdir1 dir))
theorem enter_d1 (args : Array Value) (w : World) : (callFunc 62 args).run Tryz.prog w = .ok (.enter 62 args) w := Go.MuLone.run_callFunc_enter Tryz.func62 (by kernel_rfl) rfl args w
set_option maxHeartbeats 4000000 in
set_option maxRecDepth 10000 in
theorem fsyncdir_any (w : World) (M : FsMem) (S : FsSt) (K : Nat) (h : FsAt w M S) (hi : FsInv K S) (hK : K ≤ 1048576) (hr : DurRoom S S.pend.length) (hm : MaxL w) (dir : ByteArray) (hn : dir.size ≤ 1048576) :
    Calls Tryz.prog 15 #[.pointer (some ⟨M.fb, 0, none⟩), .string dir] w (WrPost w M (S.syncdir dir).2 (S.syncdir dir).1) := by
  obtain ⟨P, hP⟩ : ∃ P, P = WrPost w M (S.syncdir dir).2 (S.syncdir dir).1 := ⟨_, rfl⟩
  rw [← hP]
  have HP := Lib.hid hP
  have H := Lib.hid h
  have c9 : w.cell? ⟨M.fb, 9, none⟩ = some (.bool S.down) := (h.cell 9 _ rfl).1
  have hfb := h.lt M.fb (by simp [FsMem.own])
  have HM := Lib.hid hm
  clear hP h hm
  have hB0 : Below w.heap.size w ((w.alloc (.cells #[.pointer (some ⟨M.fb, 0, none⟩)] 25)).alloc (.cells #[.string dir] 9)) := ((Below.refl w.heap.size w).alloc (Nat.le_refl _) _).alloc (by simp) _
  have H0 := Lib.hid (H.out.below hB0)
  have G0 := Lib.hid (Gr.of_below (M := M) hB0)
  have HM0 := Lib.hid (HM.out.below hB0)
  by_cases hdn : S.down = true
  · rw [hdn] at c9
    go_enter Tryz.func15, Tryz.ntmps15
    go_wp2_with fail
    show P (.returned (.int .i64 5)) _
    rw [HP.out]
    unfold FsSt.syncdir
    rw [if_pos hdn]
    exact ⟨rfl, M, H0.out, G0.out⟩
  have hdn : S.down = false := by simpa using hdn
  rw [hdn] at c9
  have q0 : ((w.alloc (.cells #[.pointer (some ⟨M.fb, 0, none⟩)] 25)).alloc (.cells #[.string dir] 9)).heap[w.heap.size]? = some (.cells #[.pointer (some ⟨M.fb, 0, none⟩)] 25 (0, 0)) := (Below.heap_alloc _ _ w.heap.size (by simp)).trans (heap_alloc_new w _)
  have q1 : ((w.alloc (.cells #[.pointer (some ⟨M.fb, 0, none⟩)] 25)).alloc (.cells #[.string dir] 9)).heap[w.heap.size + 1]? = some (.cells #[.string dir] 9 (0, 0)) := by
    simpa using heap_alloc_new (w.alloc (.cells #[.pointer (some ⟨M.fb, 0, none⟩)] 25)) (.cells #[.string dir] 9)
  have Q0 := Lib.hid q0
  have Q1 := Lib.hid q1
  clear q0 q1 hB0 HM
  have tail : ∀ w1, FsAt w1 M S → Gr M w M w1 → w1.heap[w.heap.size]? = some (.cells #[.pointer (some ⟨M.fb, 0, none⟩)] 25 (0, 0)) → w1.heap[w.heap.size + 1]? = some (.cells #[.string dir] 9 (0, 0)) → ¬ (dir.size ≠ 0 ∧ validF (toL dir) = false) →
      Calls Tryz.prog 24 #[.pointer (some ⟨M.fb, 0, none⟩), .func (.func 62) #[] #[.pointer (some ⟨w.heap.size, 0, none⟩), .pointer (some ⟨w.heap.size + 1, 0, none⟩)]] w1 fun e w6 => e = .returned (.int .i64 (S.wrErr : Nat)) ∧ P (.returned (.int .i64 (S.wrErr : Nat))) w6 := fun w1 h1 g1 r0 r1 hno => by
    refine (write_of w1 M S (S.tick.syncdir1 dir) h1 62 #[.pointer (some ⟨w.heap.size, 0, none⟩), .pointer (some ⟨w.heap.size + 1, 0, none⟩)] enter_d1 hi.armed (by have := hi.steps; show S.steps ≤ _; omega) (fun _ wx hx fx => syncdir1_any wx M S.tick K hx hi.tick hK hr dir w.heap.size (w.heap.size + 1) (box_keptT fx r0 boxFS) (box_keptT fx r1 boxStr))).mono ?_
    rintro e w6 ⟨rfl, M6, h6, g6⟩
    refine ⟨rfl, ?_⟩
    rw [HP.out]
    unfold FsSt.syncdir
    rw [if_neg (by rw [hdn]; simp), if_neg hno]
    exact ⟨rfl, M6, h6, g1.trans g6⟩
  have Tail := Lib.hid tail
  clear tail
  by_cases hz : dir.size = 0
  · have hd0 : dir = ⟨#[]⟩ := by
      cases dir with
      | mk d => exact congrArg _ (Array.eq_empty_of_size_eq_zero hz)
    have hq : (dir.toList == []) = true := by rw [hd0, toList_toL]; rfl
    have t1 := Tail.out _ H0.out G0.out Q0.out Q1.out (fun h => h.1 hz)
    have T1 := Lib.hid t1
    clear t1 Tail hd0 hz
    go_enter Tryz.func15, Tryz.ntmps15
    go_wp2_with fail
    refine T1.out.mono ?_
    rintro e w6 ⟨rfl, hf⟩
    go_wp2_with fail
    exact hf
  · have hq : (dir.toList == []) = false := by
      rw [beq_eq_false_iff_ne, toList_toL]
      intro e
      have := congrArg List.length e
      rw [toL_len] at this
      exact hz this
    go_enter Tryz.func15, Tryz.ntmps15
    go_wp2_with fail
    refine (valid_any _ dir hn HM0.out).mono ?_
    rintro e w2 ⟨rfl, hb2⟩
    have R0 := Lib.hid ((hb2.block _ (lt_of_heap Q0.out)).trans Q0.out)
    have R1 := Lib.hid ((hb2.block _ (lt_of_heap Q1.out)).trans Q1.out)
    have H2 := Lib.hid (H0.out.below hb2)
    have G2 := Lib.hid (G0.out.trans (Gr.of_below (M := M) hb2))
    have r0 := box_cell R0.out
    clear hb2
    by_cases hv : validF (toL dir) = false
    · rw [hv]
      go_wp2_with fail
      show P (.returned (.int .i64 1)) _
      rw [HP.out]
      unfold FsSt.syncdir
      rw [if_neg (by rw [hdn]; simp), if_pos ⟨hz, hv⟩]
      exact ⟨rfl, M, H2.out, G2.out⟩
    · have t1 := Tail.out _ H2.out G2.out R0.out R1.out (fun h => hv h.2)
      have T1 := Lib.hid t1
      have hv : validF (toL dir) = true := by simpa using hv
      rw [hv]
      clear t1 Tail hz
      go_wp2_with fail
      refine T1.out.mono ?_
      rintro e w6 ⟨rfl, hf⟩
      go_wp2_with fail
      exact hf
end Go.Proofs.YtaolddgnannojaaGreatDoor
namespace Go.Proofs.YtaolddgnannojaaGreatDoor
open Go.RowKit Go.Maps

attribute [local go_sem] lt1 lt2 lt3 lt4 lt5 lt6

def newS (q : Int) : FsSt := ⟨(min (max q 0) 67108864).toNat, [], 0, .map [], .map [], 0, [], 0, 0, false⟩
def NewPost (w : World) (S : FsSt) (e : Ending) (w' : World) : Prop := ∃ M : FsMem, e = .returned (.pointer (some ⟨M.fb, 0, none⟩)) ∧ FsAt w' M S ∧ Below w.heap.size w w' ∧ ∀ k, k ∈ M.own → w.heap.size ≤ k
set_option maxHeartbeats 4000000 in
set_option maxRecDepth 10000 in
theorem new_any (w : World) (q : Int) : Calls Tryz.prog 6 #[.int .i64 q] w (NewPost w (newS q)) := by
  have hmm := @run_makeMap Tryz.prog
  go_enter Tryz.func6, Tryz.ntmps6
  go_wp2_with fail
  go_ret
  have e1 : (((min (max q 0) 67108864).toNat : Nat) : Int) = min (max q 0) 67108864 := Int.toNat_of_nonneg (by omega)
  have hs1 : (w.alloc (.map #[] 0)).heap.size = w.heap.size + 1 := by simp
  have hs2 : ((w.alloc (.map #[] 0)).alloc (.map #[] 0)).heap.size = w.heap.size + 1 + 1 := by simp
  have hs3 : (((w.alloc (.map #[] 0)).alloc (.map #[] 0)).alloc (.map #[] 0)).heap.size = w.heap.size + 1 + 1 + 1 := by simp
  have m1 := World.ownsMap_made (H := Unit) w Tryz.prog 3 RPtr
  have m2 := World.ownsMap_made (H := Unit) (w.alloc (.map #[] 0)) Tryz.prog 9 (plainElem Tryz.prog 3)
  have m3 := World.ownsMap_made (H := Unit) ((w.alloc (.map #[] 0)).alloc (.map #[] 0)) Tryz.prog 9 (plainElem Tryz.prog 3)
  rw [hs1] at m2
  rw [hs2] at m3
  have hb := heap_alloc_new (((w.alloc (.map #[] 0)).alloc (.map #[] 0)).alloc (.map #[] 0)) (.cells #[.int .i64 (min (max q 0) 67108864), .map (some w.heap.size), .int .i64 0, .map (some (w.heap.size + 1)), .map (some (w.heap.size + 1 + 1)), .int .i64 0, .slice none 0 0, .int .i64 0, .int .i64 0, .bool false] 49)
  rw [hs3] at hb
  refine ⟨⟨w.heap.size + 1 + 1 + 1, w.heap.size, w.heap.size + 1, w.heap.size + 1 + 1, .slice none 0 0, []⟩, rfl, ⟨?_, (m2.alloc _).alloc _, m3.alloc _, Nats.made, Nats.made, (((m1.alloc _).alloc _).alloc _), trivial, ⟨[], trivial, World.ownsRow_nil _ _ _ _⟩, ?_⟩, ?_, ?_⟩
  · unfold newS
    simp only [e1]
    exact hb
  · simp [FsMem.own, Value.ownBlock]
    omega
  · exact (((((Below.refl w.heap.size w).alloc (Nat.le_refl _) _).alloc (by simp) _).alloc (by simp; omega) _).alloc (by simp; omega) _)
  · intro k hk
    simp [FsMem.own, Value.ownBlock] at hk
    omega
theorem arm_any (w : World) (M : FsMem) (S : FsSt) (h : FsAt w M S) (n : Int) (hn : n ≤ 9223372036854775807) :
    Calls Tryz.prog 40 #[.pointer (some ⟨M.fb, 0, none⟩), .int .i64 n] w (LosePost w M { S with armed := (max n 0).toNat }) := by
  have f8 : w.frozen? ⟨M.fb, 8, none⟩ = false := (blk_cells h.blk).2.1 8
  have c8 : w.cell? ⟨M.fb, 8, none⟩ = some (.int .i64 (S.armed : Nat)) := (h.cell 8 _ rfl).1
  obtain ⟨h1, f1⟩ := h.put (S' := { S with armed := (max n 0).toNat }) 8 (.int .i64 (max n 0)) (by
    have e : (((max n 0).toNat : Nat) : Int) = max n 0 := Int.toNat_of_nonneg (by omega)
    show _ = #[Value.int .i64 (S.quota : Nat), .map (some M.fm), .int .i64 (S.last : Nat), .map (some M.nm), .map (some M.dm), .int .i64 S.size, M.pv, .int .i64 (S.steps : Nat), .int .i64 (((max n 0).toNat : Nat) : Int), .bool S.down]
    rw [e]
    rfl) rfl rfl rfl rfl
  have Hfin : Hid (LosePost w M { S with armed := (max n 0).toNat } (.returned (.tuple #[])) (w.setCell ⟨M.fb, 8, none⟩ (.int .i64 (max n 0)))) := Lib.hid ⟨rfl, h1, f1⟩
  clear h h1 f1
  go_enter Tryz.func40, Tryz.ntmps40
  go_wp2_with fail
  go_end0
  exact Hfin.out
theorem size_any (w : World) (M : FsMem) (S : FsSt) (h : FsAt w M S) : Calls Tryz.prog 55 #[.pointer (some ⟨M.fb, 0, none⟩)] w fun e w' => e = .returned (.int .i64 S.size) ∧ w' = w := by
  have c : w.cell? ⟨M.fb, 5, none⟩ = some (.int .i64 S.size) := (h.cell 5 _ rfl).1
  clear h
  go_enter Tryz.func55, Tryz.ntmps55
  go_wp2_with fail
  go_ret
  exact ⟨rfl, rfl⟩
theorem steps_any (w : World) (M : FsMem) (S : FsSt) (h : FsAt w M S) : Calls Tryz.prog 57 #[.pointer (some ⟨M.fb, 0, none⟩)] w fun e w' => e = .returned (.int .i64 (S.steps : Nat)) ∧ w' = w := by
  have c : w.cell? ⟨M.fb, 7, none⟩ = some (.int .i64 (S.steps : Nat)) := (h.cell 7 _ rfl).1
  clear h
  go_enter Tryz.func57, Tryz.ntmps57
  go_wp2_with fail
  go_ret
  exact ⟨rfl, rfl⟩
theorem down_any (w : World) (M : FsMem) (S : FsSt) (h : FsAt w M S) : Calls Tryz.prog 58 #[.pointer (some ⟨M.fb, 0, none⟩)] w fun e w' => e = .returned (.bool S.down) ∧ w' = w := by
  have c : w.cell? ⟨M.fb, 9, none⟩ = some (.bool S.down) := (h.cell 9 _ rfl).1
  clear h
  go_enter Tryz.func58, Tryz.ntmps58
  go_wp2_with fail
  go_ret
  exact ⟨rfl, rfl⟩
/-! ### Read -/
def ReadPost (w : World) (S : FsSt) (name : ByteArray) (e : Ending) (w' : World) : Prop := Below w.heap.size w w' ∧ (match S.of name with
  | none => e = .returned (.tuple #[.slice none 0 0, .int .i64 2])
  | some i => ∃ g, e = .returned (.tuple #[.slice (some ⟨g, 0, none⟩) (S.fileD i).2.d.length (S.fileD i).2.d.length, .int .i64 0]) ∧ w'.heap[g]? = some (.cells (u8s (S.fileD i).2.d).toArray 5 (0, 0)) ∧ w.heap.size ≤ g)
theorem data_bs {w : World} {v : Value} {d : List UInt8} (h : DataAt w v d) : ∃ A c, v = .slice A d.length c ∧ Bs w A c d := by
  rcases h with ⟨rfl, rfl⟩ | ⟨g, cap, cur, rfl, hg, hnc, hcm, hcs, htk⟩
  · exact ⟨none, 0, rfl, Bs.none_ w⟩
  · refine ⟨_, _, rfl, by simp [u8s], by simp, hnc, hcm, fun hn => ⟨g, 0, rfl, fun j hj => ?_⟩⟩
    have hj' : j < (u8s d).length := by simpa [u8s] using hj
    rw [(DataAt.cells hg htk) j _ (List.getElem?_eq_getElem hj'), List.getElem?_eq_getElem hj']
set_option maxHeartbeats 4000000 in
set_option maxRecDepth 10000 in
theorem read_any (w : World) (M : FsMem) (S : FsSt) (K : Nat) (h : FsAt w M S) (hi : FsInv K S) (hK : K ≤ 1048576) (name : ByteArray) (hn : name.size ≤ 1048576) :
    Calls Tryz.prog 42 #[.pointer (some ⟨M.fb, 0, none⟩), .string name] w (ReadPost w S name) := by
  have H := Lib.hid h
  obtain ⟨P, hP⟩ : ∃ P, P = ReadPost w S name := ⟨_, rfl⟩
  rw [← hP]
  have HP := Lib.hid hP
  clear h hP
  go_enter Tryz.func42, Tryz.ntmps42
  go_wp2_with fail
  refine (of_any _ M S H.out name (by unfold maxLen; omega) (hi.name_le hK name)).mono ?_
  rintro e w1 ⟨rfl, nn, rfl⟩
  have H1 := Lib.hid (H.out.drewN nn)
  have HB1 : Hid (Below w.heap.size w (w.drewN nn)) := Lib.hid ⟨rfl, rfl, rfl, Nat.le_refl _, fun _ _ => rfl⟩
  generalize w.drewN nn = w1 at *
  cases hof : S.of name with
  | none =>
    have hpt : M.ptr none = .pointer none := rfl
    rw [hpt]
    go_wp2_with fail
    rw [HP.out]
    unfold ReadPost
    rw [hof]
    exact ⟨HB1.out, rfl⟩
  | some i =>
    obtain ⟨gf, hgf⟩ : ∃ gf, gf = (M.fl.getD i (0, undef)).1 := ⟨_, rfl⟩
    have hpt : M.ptr (some i) = .pointer (some ⟨gf, 0, none⟩) := by rw [hgf]; rfl
    rw [hpt]
    clear hpt
    have hil := S.idx_lt hof
    have hfile := H1.out.fileAt hil
    obtain ⟨Af, cf, hfv, hbs⟩ := data_bs hfile.2
    have hf0 := hfile.1
    rw [hfv, ← hgf] at hf0
    change w1.heap[gf]? = some (.cells #[.slice Af (S.fileD i).2.d.length cf, _] _ _) at hf0
    change Bs w1 Af cf (S.fileD i).2.d at hbs
    have hlk := hi.lenAt i
    change (S.fileD i).2.d.length ≤ K at hlk
    have m1 : w1.cell? ⟨gf, 0, none⟩ = some (.slice Af (S.fileD i).2.d.length cf) := (blk_cells hf0).1 0
    have Hbs := Lib.hid hbs
    clear hfile hfv hf0 hgf hbs
    obtain ⟨d, hd⟩ : ∃ d, d = (S.fileD i).2.d := ⟨_, rfl⟩
    rw [← hd] at m1 Hbs hlk
    have Hd := Lib.hid hd
    clear hd
    go_wp2_with fail
    refine (fresh_any d Af cf w1 (by omega) Hbs.out).mono ?_
    rintro e w2 ⟨g, rfl, hg, hgs, hb2⟩
    have Hfin : Hid (P (.returned (.tuple #[.slice (some ⟨g, 0, none⟩) d.length d.length, .int .i64 0])) w2) := Lib.hid (by
      rw [HP.out]
      unfold ReadPost
      rw [hof]
      have hs := HB1.out.size
      refine ⟨HB1.out.trans (hb2.mono hs), g, ?_, ?_, by omega⟩
      · rw [Hd.out]
      · rw [← Hd.out]; exact hg)
    clear hg hgs hb2
    go_wp2_with fail
    exact Hfin.out
end Go.Proofs.YtaolddgnannojaaGreatDoor
