/-
  Does: Sync of both.
  Does: Rename of both.
  Does: Remove of both.
  Does: SyncDir of both.
  Does: Arm and Crash of both.
-/
import Derived.Test.YtaolddgnannojaaGreatDoorG39
namespace Go.Proofs.YtaolddgnannojaaGreatDoor
open Go.RowKit Go.Maps

attribute [local go_sem] lt1 lt2 lt3 lt4 lt5 lt6

set_option maxHeartbeats 8000000 in
set_option maxRecDepth 100000 in
theorem does_sync {K : Nat} {w0 w : World} {M : FsMem} {S : FsSt} {MR : RMem} {R : RSt} (h : Pair K w0 w M S MR R) (o : OpC) (ho : OpOk o) (hk : o.kind = 2) (hK : K + 2 ≤ 1048576) (A : Option Addr) (c : Nat) :
    Calls Tryz.prog 11 #[.pointer (some ⟨M.fb, 0, none⟩), .pointer (some ⟨MR.rb, 0, none⟩), .agg (opCells o A c)] w (DoesPost (K + 2) w0 M.fb MR.rb) := by
  obtain ⟨P, hP⟩ : ∃ P, P = DoesPost (K + 2) w0 M.fb MR.rb := ⟨_, rfl⟩
  rw [← hP]
  have HP := Lib.hid hP
  obtain ⟨kind, n, m, name, to, b⟩ := o
  have hnm := ho.name
  have hto := ho.to
  simp only at hk hnm hto
  have k0 : (kind == 0) = false := by simp only [beq_eq_false_iff_ne]; omega
  have k1 : (kind == 1) = false := by simp only [beq_eq_false_iff_ne]; omega
  have k2 : (kind == 2) = true := by simp only [beq_iff_eq]; omega
  have hb0 : Below w.heap.size w (w.alloc (.cells (opCells ⟨kind, n, m, name, to, b⟩ A c) 31)) := (Below.refl _ _).alloc (Nat.le_refl _) _
  have h0 := h.low hb0
  have hnew := heap_alloc_new w (.cells (opCells ⟨kind, n, m, name, to, b⟩ A c) 31)
  have q0 : (w.alloc (.cells (opCells ⟨kind, n, m, name, to, b⟩ A c) 31)).cell? ⟨w.heap.size, 0, none⟩ = some (.int .i64 kind) := (blk_cells hnew).1 0
  have q3 : (w.alloc (.cells (opCells ⟨kind, n, m, name, to, b⟩ A c) 31)).cell? ⟨w.heap.size, 3, none⟩ = some (.string name) := (blk_cells hnew).1 3
  have hne : w.heap.size ∉ M.own ∧ w.heap.size ∉ MR.own := ⟨fun hh => by have := h.side.f.up.at_.lt _ hh; omega, fun hh => by have := h.side.r.lt _ hh; omega⟩
  unfold opCells at h0 hnew q0 q3 ⊢
  simp only at h0 hnew q0 q3 ⊢
  obtain ⟨fb, hfb⟩ : ∃ fb, fb = M.fb := ⟨_, rfl⟩
  obtain ⟨rb, hrb⟩ : ∃ rb, rb = MR.rb := ⟨_, rfl⟩
  rw [← hfb, ← hrb] at HP ⊢
  have Hne := Lib.hid hne
  have H0 := Lib.hid h0
  have Hfb := Lib.hid hfb
  have Hrb := Lib.hid hrb
  clear h h0 hb0 hP hfb hrb hk ho hne
  go_enter Tryz.func11, Tryz.ntmps11
  go_wp2_with fail
  generalize w.alloc (.cells #[.int .i64 kind, .int .i64 n, .int .i64 m, .string name, .string to, .slice A b.length c] 31) = w1 at *
  obtain ⟨ob, hob⟩ : ∃ ob, ob = w.heap.size := ⟨_, rfl⟩
  rw [← hob] at hnew q0 q3 Hne ⊢
  clear hob
  obtain ⟨wd, hwd⟩ : ∃ wd, wd = w1.drew := ⟨_, rfl⟩
  with_reducible refine g_mixx [(0, 0), (1, 0), (2, 0), (5, 0), (6, 0), (7, 0), (3, 2), (4, 2), (8, 2), (9, 0), (10, 0)] (fun w' => w'.cell? ⟨ob, 3, none⟩ = some (.string name)) 0 _ rfl (by kernel_rfl) (by kernel_rfl) ?_ ?_
  · exact q3
  intro OPS HD
  simp only [mixX, nthO, consX]
  rw [← hwd]
  have hbd : Below w1.heap.size w1 wd := by rw [hwd]; exact ⟨rfl, rfl, rfl, Nat.le_refl _, fun _ _ => rfl⟩
  have hp := H0.out.low hbd
  have hnd := (hbd.block _ (lt_of_heap hnew)).trans hnew
  have q3 := (Cells.of_below hbd) _ _ q3
  clear hwd hnew hbd H0 q0
  iterate 6 ((with_reducible refine x_val (v := ?_) ?_ ?_ ?_); rotate_left; (rintro _ h1; go_simp; first | done | rfl | (constructor <;> rfl)); exact q3)
  with_reducible refine x_one ?_
  obtain ⟨e, S1, R1, c1, c2, hsim, hinv⟩ := hp.sync name hnm hK
  rw [← Hfb.out] at c1
  refine l_call ?_ (c1.mono ?_)
  · go_simp
  rintro _ w2 ⟨rfl, fr1, M1, h1, hfb1⟩
  refine ⟨_, rfl, ?_⟩
  have hn2 := (fr1.block _ (lt_of_heap hnd) Hne.out.1).trans hnd
  have q3 : w2.cell? ⟨ob, 3, none⟩ = some (.string name) := (blk_cells hn2).1 3
  refine x_keep q3 ?_
  with_reducible refine x_one ?_
  refine l_call ?_ ((num_any (e : Int) w2).mono ?_)
  · go_simp
  rintro _ w3 ⟨rfl, rfl⟩
  refine ⟨_, rfl, ?_⟩
  refine x_keep q3 ?_
  have c3 := c2 M1 w2 h1
  rw [← Hrb.out] at c3
  with_reducible refine x_one ?_
  refine l_call ?_ (c3.mono ?_)
  · go_simp
  rintro _ w4 ⟨rfl, fr2, M2, h2, hrb2⟩
  refine ⟨_, rfl, ?_⟩
  have hn4 := (fr2.block _ (lt_of_heap hn2) Hne.out.2).trans hn2
  have q3 : w4.cell? ⟨ob, 3, none⟩ = some (.string name) := (blk_cells hn4).1 3
  have Hend : Hid (P (.returned (.bool true)) w4) := Lib.hid (by
    rw [HP.out]
    exact DoesPost.of h2 hsim hinv (Nat.le_refl _) hfb1 hrb2)
  clear c1 c2 c3 h1 h2 fr1 fr2 hsim hinv hp hnd hn2 hn4 hfb1 hrb2
  refine x_keep q3 ?_
  iterate 2 ((with_reducible refine x_val (v := ?_) ?_ ?_ ?_); rotate_left; (rintro _ h1; go_simp; first | done | rfl | (constructor <;> rfl)); exact q3)
  with_reducible refine x_end ?_
  simp only [Act.put, List.setIfInBounds_toArray, List.set_cons_zero, List.set_cons_succ]
  clear q3 
  go_wp2_with fail
  exact Hend.out
end Go.Proofs.YtaolddgnannojaaGreatDoor
namespace Go.Proofs.YtaolddgnannojaaGreatDoor
open Go.RowKit Go.Maps

attribute [local go_sem] lt1 lt2 lt3 lt4 lt5 lt6

set_option maxHeartbeats 8000000 in
set_option maxRecDepth 100000 in
theorem does_rename {K : Nat} {w0 w : World} {M : FsMem} {S : FsSt} {MR : RMem} {R : RSt} (h : Pair K w0 w M S MR R) (o : OpC) (ho : OpOk o) (hk : o.kind = 3) (hK : K + 2 ≤ 1048576) (A : Option Addr) (c : Nat) :
    Calls Tryz.prog 11 #[.pointer (some ⟨M.fb, 0, none⟩), .pointer (some ⟨MR.rb, 0, none⟩), .agg (opCells o A c)] w (DoesPost (K + 2) w0 M.fb MR.rb) := by
  obtain ⟨P, hP⟩ : ∃ P, P = DoesPost (K + 2) w0 M.fb MR.rb := ⟨_, rfl⟩
  rw [← hP]
  have HP := Lib.hid hP
  obtain ⟨kind, n, m, name, to, b⟩ := o
  have hnm := ho.name
  have hto := ho.to
  simp only at hk hnm hto
  have k0 : (kind == 0) = false := by simp only [beq_eq_false_iff_ne]; omega
  have k1 : (kind == 1) = false := by simp only [beq_eq_false_iff_ne]; omega
  have k2 : (kind == 2) = false := by simp only [beq_eq_false_iff_ne]; omega
  have k3 : (kind == 3) = true := by simp only [beq_iff_eq]; omega
  have hb0 : Below w.heap.size w (w.alloc (.cells (opCells ⟨kind, n, m, name, to, b⟩ A c) 31)) := (Below.refl _ _).alloc (Nat.le_refl _) _
  have h0 := h.low hb0
  have hnew := heap_alloc_new w (.cells (opCells ⟨kind, n, m, name, to, b⟩ A c) 31)
  have q0 : (w.alloc (.cells (opCells ⟨kind, n, m, name, to, b⟩ A c) 31)).cell? ⟨w.heap.size, 0, none⟩ = some (.int .i64 kind) := (blk_cells hnew).1 0
  have q3 : (w.alloc (.cells (opCells ⟨kind, n, m, name, to, b⟩ A c) 31)).cell? ⟨w.heap.size, 3, none⟩ = some (.string name) := (blk_cells hnew).1 3
  have q4 : (w.alloc (.cells (opCells ⟨kind, n, m, name, to, b⟩ A c) 31)).cell? ⟨w.heap.size, 4, none⟩ = some (.string to) := (blk_cells hnew).1 4
  have hne : w.heap.size ∉ M.own ∧ w.heap.size ∉ MR.own := ⟨fun hh => by have := h.side.f.up.at_.lt _ hh; omega, fun hh => by have := h.side.r.lt _ hh; omega⟩
  unfold opCells at h0 hnew q0 q3 q4 ⊢
  simp only at h0 hnew q0 q3 q4 ⊢
  obtain ⟨fb, hfb⟩ : ∃ fb, fb = M.fb := ⟨_, rfl⟩
  obtain ⟨rb, hrb⟩ : ∃ rb, rb = MR.rb := ⟨_, rfl⟩
  rw [← hfb, ← hrb] at HP ⊢
  have Hne := Lib.hid hne
  have H0 := Lib.hid h0
  have Hfb := Lib.hid hfb
  have Hrb := Lib.hid hrb
  clear h h0 hb0 hP hfb hrb hk ho hne
  go_enter Tryz.func11, Tryz.ntmps11
  go_wp2_with fail
  generalize w.alloc (.cells #[.int .i64 kind, .int .i64 n, .int .i64 m, .string name, .string to, .slice A b.length c] 31) = w1 at *
  obtain ⟨ob, hob⟩ : ∃ ob, ob = w.heap.size := ⟨_, rfl⟩
  rw [← hob] at hnew q0 q3 q4 Hne ⊢
  clear hob
  obtain ⟨wd, hwd⟩ : ∃ wd, wd = w1.drew := ⟨_, rfl⟩
  with_reducible refine g_mixx [(0, 0), (1, 0), (2, 0), (3, 0), (4, 0), (7, 0), (8, 0), (9, 0), (10, 0), (11, 0), (5, 2), (6, 2), (12, 2), (13, 0), (14, 0)] (fun w' => w'.cell? ⟨ob, 3, none⟩ = some (.string name) ∧ w'.cell? ⟨ob, 4, none⟩ = some (.string to)) 0 _ rfl (by kernel_rfl) (by kernel_rfl) ?_ ?_
  · exact ⟨q3, q4⟩
  intro OPS HD
  simp only [mixX, nthO, consX]
  rw [← hwd]
  have hbd : Below w1.heap.size w1 wd := by rw [hwd]; exact ⟨rfl, rfl, rfl, Nat.le_refl _, fun _ _ => rfl⟩
  have hp := H0.out.low hbd
  have hnd := (hbd.block _ (lt_of_heap hnew)).trans hnew
  have q3 := (Cells.of_below hbd) _ _ q3
  have q4 := (Cells.of_below hbd) _ _ q4
  clear hwd hnew hbd H0 q0
  iterate 10 ((with_reducible refine x_val (v := ?_) ?_ ?_ ?_); rotate_left; (rintro _ ⟨h1, h2⟩; go_simp; first | done | rfl | (constructor <;> rfl)); exact ⟨q3, q4⟩)
  with_reducible refine x_one ?_
  obtain ⟨e, S1, R1, c1, c2, hsim, hinv⟩ := hp.rename name to hnm hto hK
  rw [← Hfb.out] at c1
  refine l_call ?_ (c1.mono ?_)
  · go_simp
  rintro _ w2 ⟨rfl, fr1, M1, h1, hfb1⟩
  refine ⟨_, rfl, ?_⟩
  have hn2 := (fr1.block _ (lt_of_heap hnd) Hne.out.1).trans hnd
  have q3 : w2.cell? ⟨ob, 3, none⟩ = some (.string name) := (blk_cells hn2).1 3
  have q4 : w2.cell? ⟨ob, 4, none⟩ = some (.string to) := (blk_cells hn2).1 4
  refine x_keep ⟨q3, q4⟩ ?_
  with_reducible refine x_one ?_
  refine l_call ?_ ((num_any (e : Int) w2).mono ?_)
  · go_simp
  rintro _ w3 ⟨rfl, rfl⟩
  refine ⟨_, rfl, ?_⟩
  refine x_keep ⟨q3, q4⟩ ?_
  have c3 := c2 M1 w2 h1
  rw [← Hrb.out] at c3
  with_reducible refine x_one ?_
  refine l_call ?_ (c3.mono ?_)
  · go_simp
  rintro _ w4 ⟨rfl, fr2, M2, h2, hrb2⟩
  refine ⟨_, rfl, ?_⟩
  have hn4 := (fr2.block _ (lt_of_heap hn2) Hne.out.2).trans hn2
  have q3 : w4.cell? ⟨ob, 3, none⟩ = some (.string name) := (blk_cells hn4).1 3
  have q4 : w4.cell? ⟨ob, 4, none⟩ = some (.string to) := (blk_cells hn4).1 4
  have Hend : Hid (P (.returned (.bool true)) w4) := Lib.hid (by
    rw [HP.out]
    exact DoesPost.of h2 hsim hinv (Nat.le_refl _) hfb1 hrb2)
  clear c1 c2 c3 h1 h2 fr1 fr2 hsim hinv hp hnd hn2 hn4 hfb1 hrb2
  refine x_keep ⟨q3, q4⟩ ?_
  iterate 2 ((with_reducible refine x_val (v := ?_) ?_ ?_ ?_); rotate_left; (rintro _ ⟨h1, h2⟩; go_simp; first | done | rfl | (constructor <;> rfl)); exact ⟨q3, q4⟩)
  with_reducible refine x_end ?_
  simp only [Act.put, List.setIfInBounds_toArray, List.set_cons_zero, List.set_cons_succ]
  clear q3 q4
  go_wp2_with fail
  exact Hend.out
end Go.Proofs.YtaolddgnannojaaGreatDoor
namespace Go.Proofs.YtaolddgnannojaaGreatDoor
open Go.RowKit Go.Maps

attribute [local go_sem] lt1 lt2 lt3 lt4 lt5 lt6

set_option maxHeartbeats 8000000 in
set_option maxRecDepth 100000 in
theorem does_remove {K : Nat} {w0 w : World} {M : FsMem} {S : FsSt} {MR : RMem} {R : RSt} (h : Pair K w0 w M S MR R) (o : OpC) (ho : OpOk o) (hk : o.kind = 4) (hK : K + 2 ≤ 1048576) (A : Option Addr) (c : Nat) :
    Calls Tryz.prog 11 #[.pointer (some ⟨M.fb, 0, none⟩), .pointer (some ⟨MR.rb, 0, none⟩), .agg (opCells o A c)] w (DoesPost (K + 2) w0 M.fb MR.rb) := by
  obtain ⟨P, hP⟩ : ∃ P, P = DoesPost (K + 2) w0 M.fb MR.rb := ⟨_, rfl⟩
  rw [← hP]
  have HP := Lib.hid hP
  obtain ⟨kind, n, m, name, to, b⟩ := o
  have hnm := ho.name
  have hto := ho.to
  simp only at hk hnm hto
  have k0 : (kind == 0) = false := by simp only [beq_eq_false_iff_ne]; omega
  have k1 : (kind == 1) = false := by simp only [beq_eq_false_iff_ne]; omega
  have k2 : (kind == 2) = false := by simp only [beq_eq_false_iff_ne]; omega
  have k3 : (kind == 3) = false := by simp only [beq_eq_false_iff_ne]; omega
  have k4 : (kind == 4) = true := by simp only [beq_iff_eq]; omega
  have hb0 : Below w.heap.size w (w.alloc (.cells (opCells ⟨kind, n, m, name, to, b⟩ A c) 31)) := (Below.refl _ _).alloc (Nat.le_refl _) _
  have h0 := h.low hb0
  have hnew := heap_alloc_new w (.cells (opCells ⟨kind, n, m, name, to, b⟩ A c) 31)
  have q0 : (w.alloc (.cells (opCells ⟨kind, n, m, name, to, b⟩ A c) 31)).cell? ⟨w.heap.size, 0, none⟩ = some (.int .i64 kind) := (blk_cells hnew).1 0
  have q3 : (w.alloc (.cells (opCells ⟨kind, n, m, name, to, b⟩ A c) 31)).cell? ⟨w.heap.size, 3, none⟩ = some (.string name) := (blk_cells hnew).1 3
  have hne : w.heap.size ∉ M.own ∧ w.heap.size ∉ MR.own := ⟨fun hh => by have := h.side.f.up.at_.lt _ hh; omega, fun hh => by have := h.side.r.lt _ hh; omega⟩
  unfold opCells at h0 hnew q0 q3 ⊢
  simp only at h0 hnew q0 q3 ⊢
  obtain ⟨fb, hfb⟩ : ∃ fb, fb = M.fb := ⟨_, rfl⟩
  obtain ⟨rb, hrb⟩ : ∃ rb, rb = MR.rb := ⟨_, rfl⟩
  rw [← hfb, ← hrb] at HP ⊢
  have Hne := Lib.hid hne
  have H0 := Lib.hid h0
  have Hfb := Lib.hid hfb
  have Hrb := Lib.hid hrb
  clear h h0 hb0 hP hfb hrb hk ho hne
  go_enter Tryz.func11, Tryz.ntmps11
  go_wp2_with fail
  generalize w.alloc (.cells #[.int .i64 kind, .int .i64 n, .int .i64 m, .string name, .string to, .slice A b.length c] 31) = w1 at *
  obtain ⟨ob, hob⟩ : ∃ ob, ob = w.heap.size := ⟨_, rfl⟩
  rw [← hob] at hnew q0 q3 Hne ⊢
  clear hob
  obtain ⟨wd, hwd⟩ : ∃ wd, wd = w1.drew := ⟨_, rfl⟩
  with_reducible refine g_mixx [(0, 0), (1, 0), (2, 0), (5, 0), (6, 0), (7, 0), (3, 2), (4, 2), (8, 2), (9, 0), (10, 0)] (fun w' => w'.cell? ⟨ob, 3, none⟩ = some (.string name)) 0 _ rfl (by kernel_rfl) (by kernel_rfl) ?_ ?_
  · exact q3
  intro OPS HD
  simp only [mixX, nthO, consX]
  rw [← hwd]
  have hbd : Below w1.heap.size w1 wd := by rw [hwd]; exact ⟨rfl, rfl, rfl, Nat.le_refl _, fun _ _ => rfl⟩
  have hp := H0.out.low hbd
  have hnd := (hbd.block _ (lt_of_heap hnew)).trans hnew
  have q3 := (Cells.of_below hbd) _ _ q3
  clear hwd hnew hbd H0 q0
  iterate 6 ((with_reducible refine x_val (v := ?_) ?_ ?_ ?_); rotate_left; (rintro _ h1; go_simp; first | done | rfl | (constructor <;> rfl)); exact q3)
  with_reducible refine x_one ?_
  obtain ⟨e, S1, R1, c1, c2, hsim, hinv⟩ := hp.remove name hnm hK
  rw [← Hfb.out] at c1
  refine l_call ?_ (c1.mono ?_)
  · go_simp
  rintro _ w2 ⟨rfl, fr1, M1, h1, hfb1⟩
  refine ⟨_, rfl, ?_⟩
  have hn2 := (fr1.block _ (lt_of_heap hnd) Hne.out.1).trans hnd
  have q3 : w2.cell? ⟨ob, 3, none⟩ = some (.string name) := (blk_cells hn2).1 3
  refine x_keep q3 ?_
  with_reducible refine x_one ?_
  refine l_call ?_ ((num_any (e : Int) w2).mono ?_)
  · go_simp
  rintro _ w3 ⟨rfl, rfl⟩
  refine ⟨_, rfl, ?_⟩
  refine x_keep q3 ?_
  have c3 := c2 M1 w2 h1
  rw [← Hrb.out] at c3
  with_reducible refine x_one ?_
  refine l_call ?_ (c3.mono ?_)
  · go_simp
  rintro _ w4 ⟨rfl, fr2, M2, h2, hrb2⟩
  refine ⟨_, rfl, ?_⟩
  have hn4 := (fr2.block _ (lt_of_heap hn2) Hne.out.2).trans hn2
  have q3 : w4.cell? ⟨ob, 3, none⟩ = some (.string name) := (blk_cells hn4).1 3
  have Hend : Hid (P (.returned (.bool true)) w4) := Lib.hid (by
    rw [HP.out]
    exact DoesPost.of h2 hsim hinv (Nat.le_refl _) hfb1 hrb2)
  clear c1 c2 c3 h1 h2 fr1 fr2 hsim hinv hp hnd hn2 hn4 hfb1 hrb2
  refine x_keep q3 ?_
  iterate 2 ((with_reducible refine x_val (v := ?_) ?_ ?_ ?_); rotate_left; (rintro _ h1; go_simp; first | done | rfl | (constructor <;> rfl)); exact q3)
  with_reducible refine x_end ?_
  simp only [Act.put, List.setIfInBounds_toArray, List.set_cons_zero, List.set_cons_succ]
  clear q3 
  go_wp2_with fail
  exact Hend.out
end Go.Proofs.YtaolddgnannojaaGreatDoor
namespace Go.Proofs.YtaolddgnannojaaGreatDoor
open Go.RowKit Go.Maps

attribute [local go_sem] lt1 lt2 lt3 lt4 lt5 lt6

set_option maxHeartbeats 8000000 in
set_option maxRecDepth 100000 in
theorem does_syncdir {K : Nat} {w0 w : World} {M : FsMem} {S : FsSt} {MR : RMem} {R : RSt} (h : Pair K w0 w M S MR R) (o : OpC) (ho : OpOk o) (hk : o.kind = 5) (hK : K + 2 ≤ 1048576) (A : Option Addr) (c : Nat) :
    Calls Tryz.prog 11 #[.pointer (some ⟨M.fb, 0, none⟩), .pointer (some ⟨MR.rb, 0, none⟩), .agg (opCells o A c)] w (DoesPost (K + 2) w0 M.fb MR.rb) := by
  obtain ⟨P, hP⟩ : ∃ P, P = DoesPost (K + 2) w0 M.fb MR.rb := ⟨_, rfl⟩
  rw [← hP]
  have HP := Lib.hid hP
  obtain ⟨kind, n, m, name, to, b⟩ := o
  have hnm := ho.name
  have hto := ho.to
  simp only at hk hnm hto
  have k0 : (kind == 0) = false := by simp only [beq_eq_false_iff_ne]; omega
  have k1 : (kind == 1) = false := by simp only [beq_eq_false_iff_ne]; omega
  have k2 : (kind == 2) = false := by simp only [beq_eq_false_iff_ne]; omega
  have k3 : (kind == 3) = false := by simp only [beq_eq_false_iff_ne]; omega
  have k4 : (kind == 4) = false := by simp only [beq_eq_false_iff_ne]; omega
  have k5 : (kind == 5) = true := by simp only [beq_iff_eq]; omega
  have hb0 : Below w.heap.size w (w.alloc (.cells (opCells ⟨kind, n, m, name, to, b⟩ A c) 31)) := (Below.refl _ _).alloc (Nat.le_refl _) _
  have h0 := h.low hb0
  have hnew := heap_alloc_new w (.cells (opCells ⟨kind, n, m, name, to, b⟩ A c) 31)
  have q0 : (w.alloc (.cells (opCells ⟨kind, n, m, name, to, b⟩ A c) 31)).cell? ⟨w.heap.size, 0, none⟩ = some (.int .i64 kind) := (blk_cells hnew).1 0
  have q3 : (w.alloc (.cells (opCells ⟨kind, n, m, name, to, b⟩ A c) 31)).cell? ⟨w.heap.size, 3, none⟩ = some (.string name) := (blk_cells hnew).1 3
  have hne : w.heap.size ∉ M.own ∧ w.heap.size ∉ MR.own := ⟨fun hh => by have := h.side.f.up.at_.lt _ hh; omega, fun hh => by have := h.side.r.lt _ hh; omega⟩
  unfold opCells at h0 hnew q0 q3 ⊢
  simp only at h0 hnew q0 q3 ⊢
  obtain ⟨fb, hfb⟩ : ∃ fb, fb = M.fb := ⟨_, rfl⟩
  obtain ⟨rb, hrb⟩ : ∃ rb, rb = MR.rb := ⟨_, rfl⟩
  rw [← hfb, ← hrb] at HP ⊢
  have Hne := Lib.hid hne
  have H0 := Lib.hid h0
  have Hfb := Lib.hid hfb
  have Hrb := Lib.hid hrb
  clear h h0 hb0 hP hfb hrb hk ho hne
  go_enter Tryz.func11, Tryz.ntmps11
  go_wp2_with fail
  generalize w.alloc (.cells #[.int .i64 kind, .int .i64 n, .int .i64 m, .string name, .string to, .slice A b.length c] 31) = w1 at *
  obtain ⟨ob, hob⟩ : ∃ ob, ob = w.heap.size := ⟨_, rfl⟩
  rw [← hob] at hnew q0 q3 Hne ⊢
  clear hob
  obtain ⟨wd, hwd⟩ : ∃ wd, wd = w1.drew := ⟨_, rfl⟩
  with_reducible refine g_mixx [(0, 0), (1, 0), (2, 0), (5, 0), (6, 0), (7, 0), (3, 2), (4, 2), (8, 2), (9, 0), (10, 0)] (fun w' => w'.cell? ⟨ob, 3, none⟩ = some (.string name)) 0 _ rfl (by kernel_rfl) (by kernel_rfl) ?_ ?_
  · exact q3
  intro OPS HD
  simp only [mixX, nthO, consX]
  rw [← hwd]
  have hbd : Below w1.heap.size w1 wd := by rw [hwd]; exact ⟨rfl, rfl, rfl, Nat.le_refl _, fun _ _ => rfl⟩
  have hp := H0.out.low hbd
  have hnd := (hbd.block _ (lt_of_heap hnew)).trans hnew
  have q3 := (Cells.of_below hbd) _ _ q3
  clear hwd hnew hbd H0 q0
  iterate 6 ((with_reducible refine x_val (v := ?_) ?_ ?_ ?_); rotate_left; (rintro _ h1; go_simp; first | done | rfl | (constructor <;> rfl)); exact q3)
  with_reducible refine x_one ?_
  obtain ⟨e, S1, R1, c1, c2, hsim, hinv⟩ := hp.syncdir name hnm hK
  rw [← Hfb.out] at c1
  refine l_call ?_ (c1.mono ?_)
  · go_simp
  rintro _ w2 ⟨rfl, fr1, M1, h1, hfb1⟩
  refine ⟨_, rfl, ?_⟩
  have hn2 := (fr1.block _ (lt_of_heap hnd) Hne.out.1).trans hnd
  have q3 : w2.cell? ⟨ob, 3, none⟩ = some (.string name) := (blk_cells hn2).1 3
  refine x_keep q3 ?_
  with_reducible refine x_one ?_
  refine l_call ?_ ((num_any (e : Int) w2).mono ?_)
  · go_simp
  rintro _ w3 ⟨rfl, rfl⟩
  refine ⟨_, rfl, ?_⟩
  refine x_keep q3 ?_
  have c3 := c2 M1 w2 h1
  rw [← Hrb.out] at c3
  with_reducible refine x_one ?_
  refine l_call ?_ (c3.mono ?_)
  · go_simp
  rintro _ w4 ⟨rfl, fr2, M2, h2, hrb2⟩
  refine ⟨_, rfl, ?_⟩
  have hn4 := (fr2.block _ (lt_of_heap hn2) Hne.out.2).trans hn2
  have q3 : w4.cell? ⟨ob, 3, none⟩ = some (.string name) := (blk_cells hn4).1 3
  have Hend : Hid (P (.returned (.bool true)) w4) := Lib.hid (by
    rw [HP.out]
    exact DoesPost.of h2 hsim hinv (Nat.le_refl _) hfb1 hrb2)
  clear c1 c2 c3 h1 h2 fr1 fr2 hsim hinv hp hnd hn2 hn4 hfb1 hrb2
  refine x_keep q3 ?_
  iterate 2 ((with_reducible refine x_val (v := ?_) ?_ ?_ ?_); rotate_left; (rintro _ h1; go_simp; first | done | rfl | (constructor <;> rfl)); exact q3)
  with_reducible refine x_end ?_
  simp only [Act.put, List.setIfInBounds_toArray, List.set_cons_zero, List.set_cons_succ]
  clear q3 
  go_wp2_with fail
  exact Hend.out
end Go.Proofs.YtaolddgnannojaaGreatDoor
namespace Go.Proofs.YtaolddgnannojaaGreatDoor
open Go.RowKit Go.Maps

attribute [local go_sem] lt1 lt2 lt3 lt4 lt5 lt6

theorem Pair.armed {K a : Nat} {w0 w : World} {M : FsMem} {S : FsSt} {MR : RMem} {R : RSt} (h : Side K w0 w M { S with armed := a } MR R) (hs : Sim S R) : Side K w0 (w.setCell ⟨MR.rb, 6, none⟩ (.int .i64 (a : Nat))) M { S with armed := a } MR { R with armed := a } ∧ Sim { S with armed := a } { R with armed := a } := by
  obtain ⟨h1, g1⟩ := h.r.put (R' := { R with armed := a }) 6 (.int .i64 (a : Nat)) rfl rfl rfl rfl rfl
  exact ⟨h.right h1 g1, hs.arm a⟩
set_option maxHeartbeats 8000000 in
set_option maxRecDepth 100000 in
theorem does_arm {K : Nat} {w0 w : World} {M : FsMem} {S : FsSt} {MR : RMem} {R : RSt} (h : Pair K w0 w M S MR R) (o : OpC) (ho : OpOk o) (hk : o.kind = 6) (A : Option Addr) (c : Nat) :
    Calls Tryz.prog 11 #[.pointer (some ⟨M.fb, 0, none⟩), .pointer (some ⟨MR.rb, 0, none⟩), .agg (opCells o A c)] w (DoesPost K w0 M.fb MR.rb) := by
  obtain ⟨P, hP⟩ : ∃ P, P = DoesPost K w0 M.fb MR.rb := ⟨_, rfl⟩
  rw [← hP]
  have HP := Lib.hid hP
  obtain ⟨kind, n, m, name, to, b⟩ := o
  have hn := ho.n
  simp only at hk hn
  have k0 : (kind == 0) = false := by simp only [beq_eq_false_iff_ne]; omega
  have k1 : (kind == 1) = false := by simp only [beq_eq_false_iff_ne]; omega
  have k2 : (kind == 2) = false := by simp only [beq_eq_false_iff_ne]; omega
  have k3 : (kind == 3) = false := by simp only [beq_eq_false_iff_ne]; omega
  have k4 : (kind == 4) = false := by simp only [beq_eq_false_iff_ne]; omega
  have k5 : (kind == 5) = false := by simp only [beq_eq_false_iff_ne]; omega
  have k6 : (kind == 6) = true := by simp only [beq_iff_eq]; omega
  have hb0 : Below w.heap.size w (w.alloc (.cells (opCells ⟨kind, n, m, name, to, b⟩ A c) 31)) := (Below.refl _ _).alloc (Nat.le_refl _) _
  have h0 := h.low hb0
  have hnew := heap_alloc_new w (.cells (opCells ⟨kind, n, m, name, to, b⟩ A c) 31)
  have hne : w.heap.size ∉ M.own := fun hh => by have := h.side.f.up.at_.lt _ hh; omega
  unfold opCells at h0 hnew ⊢
  simp only at h0 hnew ⊢
  have hc := h0.arm n (by omega)
  obtain ⟨fb, hfb⟩ : ∃ fb, fb = M.fb := ⟨_, rfl⟩
  obtain ⟨rb, hrb⟩ : ∃ rb, rb = MR.rb := ⟨_, rfl⟩
  rw [← hfb] at hc
  rw [← hfb, ← hrb] at HP ⊢
  have Hne := Lib.hid hne
  have H0 := Lib.hid h0
  have Hc := Lib.hid hc
  have Hnew := Lib.hid hnew
  have Hrb := Lib.hid hrb
  clear h h0 hb0 hP hfb hrb hk ho hne hc hnew
  go_enter Tryz.func11, Tryz.ntmps11
  go_wp2_with fail
  generalize w.alloc (.cells #[.int .i64 kind, .int .i64 n, .int .i64 m, .string name, .string to, .slice A b.length c] 31) = w1 at *
  obtain ⟨ob, hob⟩ : ∃ ob, ob = w.heap.size := ⟨_, rfl⟩
  rw [← hob] at Hnew Hne ⊢
  clear hob
  refine Hc.out.mono ?_
  rintro e w2 ⟨rfl, fr1, M1, h1, hfb1⟩
  have hn2 := (fr1.block _ (lt_of_heap Hnew.out) Hne.out).trans Hnew.out
  have q1 : w2.cell? ⟨ob, 1, none⟩ = some (.int .i64 n) := (blk_cells hn2).1 1
  have c6 : w2.cell? ⟨rb, 6, none⟩ = some (.int .i64 (R.armed : Nat)) := by rw [Hrb.out]; exact h1.r.cell 6 _ rfl
  have f6 : w2.frozen? ⟨rb, 6, none⟩ = false := by rw [Hrb.out]; exact (blk_cells h1.r.blk).2.1 6
  obtain ⟨h2, hs2⟩ := Pair.armed h1 H0.out.sim
  have hmx : (((max n 0).toNat : Nat) : Int) = max n 0 := by omega
  rw [hmx, ← Hrb.out] at h2
  have Hend : Hid (P (.returned (.bool true)) (w2.setCell ⟨rb, 6, none⟩ (.int .i64 (max n 0)))) := Lib.hid (by
    rw [HP.out]
    exact DoesPost.of h2 hs2 (H0.out.inv.same rfl) (Nat.le_refl _) hfb1 Hrb.out.symm)
  clear h1 h2 hs2 fr1 hn2 hmx hfb1
  go_wp2_with fail
  exact Hend.out
set_option maxHeartbeats 8000000 in
set_option maxRecDepth 100000 in
theorem does_crash {K : Nat} {w0 w : World} {M : FsMem} {S : FsSt} {MR : RMem} {R : RSt} (h : Pair K w0 w M S MR R) (o : OpC) (ho : OpOk o) (hk : o.kind = 7) (hK : K ≤ 1048576) (A : Option Addr) (c : Nat) :
    Calls Tryz.prog 11 #[.pointer (some ⟨M.fb, 0, none⟩), .pointer (some ⟨MR.rb, 0, none⟩), .agg (opCells o A c)] w (DoesPost K w0 M.fb MR.rb) := by
  obtain ⟨P, hP⟩ : ∃ P, P = DoesPost K w0 M.fb MR.rb := ⟨_, rfl⟩
  rw [← hP]
  have HP := Lib.hid hP
  obtain ⟨kind, n, m, name, to, b⟩ := o
  have hn := ho.n
  have hm := ho.m
  simp only at hk hn hm
  have k0 : (kind == 0) = false := by simp only [beq_eq_false_iff_ne]; omega
  have k1 : (kind == 1) = false := by simp only [beq_eq_false_iff_ne]; omega
  have k2 : (kind == 2) = false := by simp only [beq_eq_false_iff_ne]; omega
  have k3 : (kind == 3) = false := by simp only [beq_eq_false_iff_ne]; omega
  have k4 : (kind == 4) = false := by simp only [beq_eq_false_iff_ne]; omega
  have k5 : (kind == 5) = false := by simp only [beq_eq_false_iff_ne]; omega
  have k6 : (kind == 6) = false := by simp only [beq_eq_false_iff_ne]; omega
  have k7 : (kind == 7) = true := by simp only [beq_iff_eq]; omega
  have hb0 : Below w.heap.size w (w.alloc (.cells (opCells ⟨kind, n, m, name, to, b⟩ A c) 31)) := (Below.refl _ _).alloc (Nat.le_refl _) _
  have h0 := h.low hb0
  have hnew := heap_alloc_new w (.cells (opCells ⟨kind, n, m, name, to, b⟩ A c) 31)
  have hne : w.heap.size ∉ M.own := fun hh => by have := h.side.f.up.at_.lt _ hh; omega
  unfold opCells at h0 hnew ⊢
  simp only at h0 hnew ⊢
  obtain ⟨hc, hc2, hsim, hinv⟩ := h0.crash hK n m (by omega) (by omega)
  obtain ⟨S1, hS1⟩ : ∃ S1, S1 = S.crash n m := ⟨_, rfl⟩
  obtain ⟨R1, hR1⟩ : ∃ R1, R1 = R.crash n m := ⟨_, rfl⟩
  rw [← hS1] at hc hc2 hsim
  rw [← hR1] at hc2 hsim hinv
  obtain ⟨fb, hfb⟩ : ∃ fb, fb = M.fb := ⟨_, rfl⟩
  obtain ⟨rb, hrb⟩ : ∃ rb, rb = MR.rb := ⟨_, rfl⟩
  rw [← hfb] at hc
  rw [← hrb] at hc2
  rw [← hfb, ← hrb] at HP ⊢
  have Hne := Lib.hid hne
  have Hc := Lib.hid hc
  have Hc2 := Lib.hid hc2
  have Hs := Lib.hid (And.intro hsim hinv)
  have Hnew := Lib.hid hnew
  clear h h0 hb0 hP hfb hrb hk ho hne hc hc2 hnew hS1 hR1 hsim hinv
  go_enter Tryz.func11, Tryz.ntmps11
  go_wp2_with fail
  generalize w.alloc (.cells #[.int .i64 kind, .int .i64 n, .int .i64 m, .string name, .string to, .slice A b.length c] 31) = w1 at *
  obtain ⟨ob, hob⟩ : ∃ ob, ob = w.heap.size := ⟨_, rfl⟩
  rw [← hob] at Hnew Hne ⊢
  clear hob
  refine Hc.out.mono ?_
  rintro e w2 ⟨rfl, fr1, M1, h1, hfb1⟩
  have hn2 := (fr1.block _ (lt_of_heap Hnew.out) Hne.out).trans Hnew.out
  have q1 : w2.cell? ⟨ob, 1, none⟩ = some (.int .i64 n) := (blk_cells hn2).1 1
  have q2 : w2.cell? ⟨ob, 2, none⟩ = some (.int .i64 m) := (blk_cells hn2).1 2
  have Hc3 := Lib.hid (Hc2.out M1 w2 h1)
  clear h1 fr1 hn2
  go_wp2_with fail
  refine Hc3.out.mono ?_
  rintro e w3 ⟨rfl, _, M2, h2, hrb2⟩
  have Hend : Hid (P (.returned (.bool true)) w3) := Lib.hid (by
    rw [HP.out]
    exact DoesPost.of h2 Hs.out.1 Hs.out.2 (Nat.le_refl _) hfb1 hrb2)
  clear h2 hrb2 hfb1
  go_wp2_with fail
  exact Hend.out
end Go.Proofs.YtaolddgnannojaaGreatDoor
