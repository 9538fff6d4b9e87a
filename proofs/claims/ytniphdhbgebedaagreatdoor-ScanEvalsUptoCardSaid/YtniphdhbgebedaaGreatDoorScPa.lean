/-
  What is done with an import's path.
-/
import Derived.Test.YtniphdhbgebedaaGreatDoorScCj
import Derived.Maps.AppendAt
namespace Go.Proofs.YtniphdhbgebedaaGreatDoor
open Go.RowKit

set_option linter.unusedSimpArgs false

set_option linter.unusedSimpArgs false

attribute [local go_sem] lt1 lt2 lt3 lt4 lt5 lt6

set_option maxRecDepth 100000 in
set_option maxHeartbeats 8000000 in
theorem path_no (w : World) (r p q : Nat) (k : Int) (s : ByteArray) (line : Int) (a0 a1 a2 v ln er : Value) (hg : Glob w) (h : RdB w r a0 a1 a2 v ln er) (hp : w.heap[p]? = some (.cells #[rP r] 61 (0, 0))) (hc : importOk (toL s) = false) :
    Calls Tryz.prog 169 #[.agg #[.int .u8 k, .string s, .int .i64 line], rP p, rP q] w fun en w' => (∃ u, en = .returned u) ∧ Hid (RdB w' r a0 a1 a2 .nilFunc (.int .i64 line) (.int .i64 9)) ∧ Hid (Fr [r] w w') := by
  have pw : w.cell? ⟨p, 0, none⟩ = some (.pointer (some ⟨r, 0, none⟩)) := (blk_cells hp).1 0
  have hl := lt_of_heap h
  have hlp := lt_of_heap hp
  obtain ⟨x0, hx0⟩ : ∃ x, x = w.alloc (.cells #[.int .u8 k, .string s, .int .i64 line] 70) := ⟨_, rfl⟩
  have B0 : Below w.heap.size w x0 := by rw [hx0]; exact (Below.refl _ w).alloc (Nat.le_refl _) _
  have hgx : w.heap.size < x0.heap.size := by rw [hx0]; simp
  have ht : x0.heap[w.heap.size]? = some (.cells #[.int .u8 k, .string s, .int .i64 line] 70 (0, 0)) := by rw [hx0]; exact heap_alloc_new _ _
  have hci := checkImport_any s x0 (hg.below B0 hg.pos)
  unfold CiPost at hci
  obtain ⟨c, hcv⟩ : ∃ c, ciE (toL s) = c := ⟨_, rfl⟩
  have hc0 : (c != 0) = true := by
    rw [bne_iff_ne]
    intro e
    have := (ciE_ok (toL s)).1 (hcv.trans e)
    rw [hc] at this
    cases this
  rw [hcv] at hci
  have H := Lib.hid h
  have HB0 := Lib.hid B0
  have HT := Lib.hid ht
  have HC := Lib.hid hci
  have HX := Lib.hid hx0
  clear h hp hcv hci hx0 B0 hg ht
  unfold rP
  go_enter Tryz.func169, Tryz.ntmps169
  go_wp2_with fail
  rw [← HX.out]
  refine HC.out.mono ?_
  rintro e y ⟨rfl, hB⟩
  have HBy : Hid (Below w.heap.size w y) := Lib.hid (HB0.out.trans (hB.mono HB0.out.size))
  have py : y.cell? ⟨p, 0, none⟩ = some (.pointer (some ⟨r, 0, none⟩)) := below_cell HBy.out hlp pw
  have hty := (hB.block _ hgx).trans HT.out
  have t0 := (blk_cells hty).1 0
  have t1 := (blk_cells hty).1 1
  have t2 := (blk_cells hty).1 2
  have HTy := Lib.hid hty
  clear hB hty
  go_wp2_with fail
  refine (fault_call HBy.out H.out k s line 9).mono ?_
  rintro e z ⟨⟨u, rfl⟩, hR, hF⟩
  go_wp2_with fail
  refine bodyPost_ret (results_none rfl _ _ _) rfl ?_
  exact ⟨⟨_, rfl⟩, hR, hF⟩
/-- behind an append to the row of a reader's imports -/
theorem row_set {w : World} {r : Nat} {a0 a1 a2 v ln er : Value} {n : Nat} {xs : List Value} {sl : Value} (h : RdB w r a0 a1 a2 v ln er) (hr : w.ownsRow 0 9 1 sl n xs) {w' : World} (hk : ∀ k, k < w.heap.size → k ≠ r → w'.heap[k]? = w.heap[k]?) : w'.ownsRow 0 9 1 sl n xs := by
  refine own_keep hr fun g cs hg => (hk g (lt_of_heap hg) ?_).trans hg
  rintro rfl
  unfold RdB at h
  rw [hg] at h
  cases h
set_option maxRecDepth 100000 in
set_option maxHeartbeats 16000000 in
theorem path_yes (w : World) (r p q : Nat) (m : Mk) (k : Int) (s : ByteArray) (line : Int) (a0 sl a2 v ln er : Value) (n : Nat) (xs : List Value) (hg : Glob w) (h : RdB w r a0 sl a2 v ln er)
    (hp : w.heap[p]? = some (.cells #[rP r] 61 (0, 0))) (hq : w.heap[q]? = some (.cells #[.func (.func m.f) #[] #[]] 65 (0, 0))) (hpr : p ≠ r) (hqr : q ≠ r)
    (hrow : w.ownsRow 0 9 1 sl n xs) (hsr : sl.ownBlock ≠ some r) (hsp : sl.ownBlock ≠ some p) (hsq : sl.ownBlock ≠ some q) (hn : n ≤ 1048576) (hc : importOk (toL s) = true) :
    Calls Tryz.prog 169 #[.agg #[.int .u8 k, .string s, .int .i64 line], rP p, rP q] w fun en w' => (∃ u, en = .returned u) ∧ ∃ sl' v', Hid (RdB w' r a0 sl' a2 v' ln er) ∧ Hid (w'.ownsRow 0 9 1 sl' (n + 1) (xs ++ [.string s])) ∧ Hid (sl'.ownBlock = sl.ownBlock ∨ ∃ b, sl'.ownBlock = some b ∧ w.heap.size ≤ b) ∧
      Hid (Fr (r :: sl.ownBlock.toList) w w') ∧ Hid (MkAt w' (fun k => w.heap.size ≤ k ∧ sl'.ownBlock ≠ some k) r m v') := by
  have pw : w.cell? ⟨p, 0, none⟩ = some (.pointer (some ⟨r, 0, none⟩)) := (blk_cells hp).1 0
  have qw : w.cell? ⟨q, 0, none⟩ = some (.func (.func m.f) #[] #[]) := (blk_cells hq).1 0
  have hl := lt_of_heap h
  have hlp := lt_of_heap hp
  have hlq := lt_of_heap hq
  obtain ⟨iS, hiS, hzS, hsS, hbS⟩ := info_parts infoStr1
  obtain ⟨x0, hx0⟩ : ∃ x, x = w.alloc (.cells #[.int .u8 k, .string s, .int .i64 line] 70) := ⟨_, rfl⟩
  have B0 : Below w.heap.size w x0 := by rw [hx0]; exact (Below.refl _ w).alloc (Nat.le_refl _) _
  have hgx : w.heap.size < x0.heap.size := by rw [hx0]; simp
  have ht : x0.heap[w.heap.size]? = some (.cells #[.int .u8 k, .string s, .int .i64 line] 70 (0, 0)) := by rw [hx0]; exact heap_alloc_new _ _
  have hci := checkImport_any s x0 (hg.below B0 hg.pos)
  unfold CiPost at hci
  rw [(ciE_ok _).2 hc] at hci
  have H := Lib.hid h
  have HB0 := Lib.hid B0
  have HT := Lib.hid ht
  have HC := Lib.hid hci
  have HX := Lib.hid hx0
  have HW := Lib.hid hrow
  have HWo := Lib.hid hrow
  clear h hp hq hci hx0 B0 hg ht hc hrow
  unfold rP
  go_enter Tryz.func169, Tryz.ntmps169
  go_wp2_with fail
  rw [← HX.out]
  refine HC.out.mono ?_
  rintro e y ⟨rfl, hB⟩
  obtain ⟨y0, hy0⟩ : ∃ x, x = y.drew := ⟨_, rfl⟩
  have HBy : Hid (Below w.heap.size w y0) := Lib.hid (by rw [hy0]; exact below_drewN (HB0.out.trans (hB.mono HB0.out.size)) 1)
  have py : y0.cell? ⟨p, 0, none⟩ = some (.pointer (some ⟨r, 0, none⟩)) := below_cell HBy.out hlp pw
  have hty : y0.heap[w.heap.size]? = some (.cells #[.int .u8 k, .string s, .int .i64 line] 70 (0, 0)) := by rw [hy0]; exact (hB.block _ hgx).trans HT.out
  have ty : y0.cell? ⟨w.heap.size, 1, none⟩ = some (.string s) := (blk_cells hty).1 1
  have hry : RdB y0 r a0 sl a2 v ln er := (HBy.out.block r hl).trans H.out
  have ry : y0.cell? ⟨r, 1, none⟩ = some sl := (blk_cells hry).1 1
  have hrowy : y0.ownsRow 0 9 1 sl n xs := own_keep HW.out fun g cs hg => (HBy.out.block g (lt_of_heap hg)).trans hg
  have hsy : w.heap.size < y0.heap.size := lt_of_heap hty
  have HRy := Lib.hid hry
  have HWy := Lib.hid hrowy
  have HY0 := Lib.hid hy0
  clear hB hty hry hrowy hy0 HW HC HT HX HB0
  go_wp2_with fail
  with_reducible refine g_mixx [(0, 0), (1, 0), (2, 1), (3, 1), (4, 1), (5, 0), (6, 1), (7, 0), (8, 2), (9, 2), (10, 1), (11, 1), (12, 1), (13, 3)] (fun w' => w'.cell? ⟨p, 0, none⟩ = some (.pointer (some ⟨r, 0, none⟩)) ∧ w'.cell? ⟨r, 1, none⟩ = some sl ∧ w'.cell? ⟨w.heap.size, 1, none⟩ = some (.string s)) 0 _ rfl (by kernel_rfl) (by kernel_rfl) ?_ ?_
  · rw [← HY0.out]; exact ⟨py, ry, ty⟩
  rw [← HY0.out]
  intro OPS HD
  simp only [mixX, nthO, consX]
  iterate 2 ((with_reducible refine x_val (v := ?_) ?_ ?_ ?_); rotate_left; (rintro _ ⟨h1, h2, h3⟩; go_simp; first | done | rfl | (constructor <;> rfl)); exact ⟨py, ry, ty⟩)
  iterate 3 ((with_reducible refine x_any (v := ?_) ?_ ?_); rotate_left; (rintro _; go_simp; first | done | rfl | (constructor <;> rfl)))
  iterate 1 ((with_reducible refine x_val (v := ?_) ?_ ?_ ?_); rotate_left; (rintro _ ⟨h1, h2, h3⟩; go_simp; first | done | rfl | (constructor <;> rfl)); exact ⟨py, ry, ty⟩)
  iterate 1 ((with_reducible refine x_any (v := ?_) ?_ ?_); rotate_left; (rintro _; go_simp; first | done | rfl | (constructor <;> rfl)))
  iterate 1 ((with_reducible refine x_val (v := ?_) ?_ ?_ ?_); rotate_left; (rintro _ ⟨h1, h2, h3⟩; go_simp; first | done | rfl | (constructor <;> rfl)); exact ⟨py, ry, ty⟩)
  with_reducible refine x_one ?_
  iterate 1 (with_reducible refine l_val (v := ?_) (w' := ?_) ?_ ?_; rotate_left 2; (go_simp; first | done | rfl | (constructor <;> rfl)))
  have hA := (Below.refl _ y0).alloc (Nat.le_refl _) (.cells #[.string s] 9)
  refine x_keep ⟨below_cell hA (World.block_lt_of_cell? _ _ py) py, below_cell hA (World.block_lt_of_cell? _ _ ry) ry, below_cell hA (World.block_lt_of_cell? _ _ ty) ty⟩ ?_
  with_reducible refine x_one ?_
  refine wpList_append_own_at _ rfl (.tmp 18) (.tmp 21) 22 rfl 0 9 iS (.string ByteArray.empty) 1 16 Tryz.underlying22 hiS hzS hsS hbS rfl (by omega) sl n xs ?_ (own_keep HWy.out fun g cs hg => (hA.block g (lt_of_heap hg)).trans hg) ⟨y0.heap.size, 0, none⟩ 1 1 [.string s] ?_ rfl (fun j v hv => World.news_of_block (w := y0.alloc _) (heap_alloc_new y0 _) j v hv) (by simp [Value.oneCell']) (by unfold maxLen; omega) (by omega) (by simp) ?_
  · simp [Act.eval, Act.put]
  · simp [Act.eval, Act.put]
  intro v1 wp hown1 hgrow1 _ hat
  have hsz0 : w.heap.size ≤ y0.heap.size := HBy.out.size
  have hwz : y0.heap.size + 1 ≤ wp.heap.size := by have := hgrow1.size; simpa using this
  have hk : ∀ k, k < w.heap.size → some k ≠ sl.ownBlock → wp.heap[k]? = w.heap[k]? := fun k hk hne => (hgrow1.block k (by simp; omega) hne).trans ((hA.block k (by omega)).trans (HBy.out.block k hk))
  have hrp : RdB wp r a0 sl a2 v ln er := (hk r hl (Ne.symm hsr)).trans H.out
  have hcp : wp.cell? ⟨r, 1, none⟩ = some sl := (blk_cells hrp).1 1
  have hfp : wp.frozen? ⟨r, 1, none⟩ = false := (blk_cells hrp).2.1 1
  have hpp : wp.cell? ⟨p, 0, none⟩ = some (.pointer (some ⟨r, 0, none⟩)) := (World.cell?_of_block (hk p hlp (Ne.symm hsp))).trans pw
  have hqp : wp.cell? ⟨q, 0, none⟩ = some (.func (.func m.f) #[] #[]) := (World.cell?_of_block (hk q hlq (Ne.symm hsq))).trans qw
  obtain ⟨z, hz⟩ : ∃ x, x = wp.setCell ⟨r, 1, none⟩ v1 := ⟨_, rfl⟩
  have hFz : Fr [r] wp z := by rw [hz]; exact Fr.setCell _ _ _ _ (by simp)
  have hrz : RdB z.drew r a0 v1 a2 v ln er := by
    rw [hz]
    show (wp.setCell ⟨r, 1, none⟩ v1).heap[r]? = _
    rw [heap_setCell_at hrp]
    rfl
  have hpz : z.drew.cell? ⟨p, 0, none⟩ = some (.pointer (some ⟨r, 0, none⟩)) := by rw [hz]; exact cell_set_ne hpp (by omega)
  have hqz : z.drew.cell? ⟨q, 0, none⟩ = some (.func (.func m.f) #[] #[]) := by rw [hz]; exact cell_set_ne hqp (by omega)
  have hownz : z.drew.ownsRow 0 9 1 v1 (n + 1) (xs ++ [.string s]) := row_set hrp hown1 fun k hk hne => hFz.block k hk (by simp; exact hne)
  have hF1 : Fr (r :: sl.ownBlock.toList) w z.drew := by
    refine ⟨?_, ?_, ?_, ?_, ?_⟩
    · exact hFz.os.trans (hgrow1.os.trans (hA.os.trans HBy.out.os))
    · exact hFz.tape.trans (hgrow1.tape.trans (hA.tape.trans HBy.out.tape))
    · exact hFz.output.trans (hgrow1.output.trans (hA.output.trans HBy.out.output))
    · have := hFz.size; show w.heap.size ≤ z.heap.size; omega
    · intro k hkl hkn
      simp only [List.mem_cons, not_or, Option.mem_toList] at hkn
      exact (hFz.block k (by omega) (by simp; exact hkn.1)).trans (hk k hkl fun e => hkn.2 (by rw [← e]))
  have htp : wp.cell? ⟨w.heap.size, 1, none⟩ = some (.string s) := (World.cell?_of_block (hgrow1.block w.heap.size (by rw [World.size_alloc]; omega) (fun e => by
    obtain ⟨_, cur, hcur⟩ := own_blk HWo.out _ e.symm
    have := lt_of_heap hcur
    exact absurd this (Nat.lt_irrefl _)))).trans (below_cell hA hsy ty)
  refine x_keep ⟨hpp, hcp, htp⟩ ?_
  have hat2 : v1.ownBlock = sl.ownBlock ∨ ∃ b, v1.ownBlock = some b ∧ w.heap.size ≤ b := hat.imp id fun h => ⟨_, h, by simp; omega⟩
  have hcall := mk_any m z.drew r
  obtain ⟨A1, c1, hv1, -, -, -, -⟩ := own_form hown1
  have HFz := Lib.hid hFz
  have HRz := Lib.hid hrz
  have HOz := Lib.hid hownz
  have HF1 := Lib.hid hF1
  have HAt := Lib.hid hat2
  have HC := Lib.hid hcall
  have HZ := Lib.hid hz
  have HV1 := Lib.hid hv1
  clear hFz hrz hownz hF1 hat hat2 hcall hz hown1 hgrow1 hk hrp hpp hqp htp hA py ry ty HBy HRy HWy
  iterate 3 ((with_reducible refine x_any (v := ?_) ?_ ?_); rotate_left; (rintro _; go_simp; first | done | rfl | (constructor <;> rfl)))
  with_reducible refine x_three ?_
  with_reducible refine l_skip (w' := z) ?_ ?_
  · rw [HZ.out, HV1.out]
    go_simp
  with_reducible refine x_last ?_
  with_reducible refine x_end ?_
  simp only [Act.put, List.setIfInBounds_toArray, List.set_cons_zero, List.set_cons_succ]
  clear hcp hfp HD hv1
  go_wp2_with fail
  with_reducible refine g_mixx [(0, 0), (1, 0), (2, 0), (3, 2), (4, 1), (5, 1), (6, 3)] (fun w' => w'.cell? ⟨p, 0, none⟩ = some (.pointer (some ⟨r, 0, none⟩)) ∧ w'.cell? ⟨q, 0, none⟩ = some (.func (.func m.f) #[] #[])) 0 _ rfl (by kernel_rfl) (by kernel_rfl) ?_ ?_
  · exact ⟨hpz, hqz⟩
  obtain ⟨zd, hzd⟩ : ∃ x, x = z.drew := ⟨_, rfl⟩
  have hsd : wp.heap.size ≤ zd.heap.size := by rw [hzd]; exact HFz.out.size
  rw [← hzd] at hpz hqz HRz HOz HF1 HC ⊢
  clear hzd HFz HZ
  intro OPS2 HD2
  simp only [mixX, nthO, consX]
  iterate 3 ((with_reducible refine x_val (v := ?_) ?_ ?_ ?_); rotate_left; (rintro _ ⟨h1, h2⟩; go_simp; first | done | rfl | (constructor <;> rfl)); exact ⟨hpz, hqz⟩)
  with_reducible refine x_one ?_
  refine l_call (f := m.f) (args := #[rP r]) ?_ (HC.out.mono ?_)
  · have he := mk_enter m
    go_simp
    rfl
  rintro e y5 ⟨v', rfl, hB, hM⟩
  refine ⟨_, rfl, ?_⟩
  refine x_keep ⟨below_cell hB (World.block_lt_of_cell? _ _ hpz) hpz, below_cell hB (World.block_lt_of_cell? _ _ hqz) hqz⟩ ?_
  obtain ⟨⟨hst, hsf⟩, hR, hF, hK⟩ := set_fin (Below.refl _ zd) hB HRz.out v'
  have hform := hM.form
  have HR := Lib.hid hR
  have HF := Lib.hid (HF1.out.trans (hF.more (S' := r :: sl.ownBlock.toList) (by simp)))
  have HO := Lib.hid (row_set HRz.out HOz.out (w' := y5.setCell ⟨r, 3, none⟩ v') fun k hk hne => hF.block k hk (by simp; exact hne))
  have HM := Lib.hid (hM.keep (P' := fun k => w.heap.size ≤ k ∧ v1.ownBlock ≠ some k) hK fun k _ hk => ⟨by omega, fun e => by
    obtain ⟨_, cur, hcur⟩ := own_blk HOz.out _ e
    have := lt_of_heap hcur
    omega⟩)
  clear hR hF hK hM hB HRz HOz HF1
  iterate 2 ((with_reducible refine x_any (v := ?_) ?_ ?_); rotate_left; (rintro _; go_simp; first | done | rfl | (constructor <;> rfl)))
  with_reducible refine x_three ?_
  with_reducible refine l_skip (w' := y5.setCell ⟨r, 3, none⟩ v') ?_ ?_
  · rcases hform with rfl | ⟨f, c, rfl⟩ <;> go_simp
  with_reducible refine x_last ?_
  with_reducible refine x_end ?_
  simp only [Act.put, List.setIfInBounds_toArray, List.set_cons_zero, List.set_cons_succ]
  go_end0
  exact ⟨⟨_, rfl⟩, v1, v', HR, HO, HAt, HF, HM⟩
end Go.Proofs.YtniphdhbgebedaaGreatDoor
