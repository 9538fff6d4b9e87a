/-
  What is done with a token between declarations.
-/
import Derived.Test.YtniphdhbgebedaaGreatDoorScRt
namespace Go.Proofs.YtniphdhbgebedaaGreatDoor
open Go.RowKit Go.Maps

set_option linter.unusedSimpArgs false

attribute [local go_sem] lt1 lt2 lt3 lt4 lt5 lt6

set_option maxRecDepth 100000 in
set_option maxHeartbeats 8000000 in
theorem bt_stay (w : World) (r p : Nat) (k : Int) (s : ByteArray) (line : Int) (hp : w.heap[p]? = some (.cells #[rP r] 61 (0, 0))) (hk : k = 59 ∨ k = 99) :
    Calls Tryz.prog 126 #[.agg #[.int .u8 k, .string s, .int .i64 line], rP p] w fun en w' => (∃ u, en = .returned u) ∧ Below w.heap.size w w' := by
  have pw : w.cell? ⟨p, 0, none⟩ = some (.pointer (some ⟨r, 0, none⟩)) := (blk_cells hp).1 0
  have hlp := lt_of_heap hp
  have hB := (Below.refl _ w).alloc (Nat.le_refl _) (.cells #[.int .u8 k, .string s, .int .i64 line] 70)
  have HB := Lib.hid hB
  clear hp hB
  unfold rP
  rcases hk with rfl | rfl
  · go_enter Tryz.func126, Tryz.ntmps126
    go_wp2_with fail
    go_end0
    exact ⟨⟨_, rfl⟩, HB.out⟩
  · go_enter Tryz.func126, Tryz.ntmps126
    go_wp2_with fail
    go_end0
    exact ⟨⟨_, rfl⟩, HB.out⟩
set_option maxRecDepth 100000 in
set_option maxHeartbeats 8000000 in
theorem bt_bad (w : World) (r p : Nat) (s : ByteArray) (line : Int) (a0 a1 a2 v ln er : Value) (h : RdB w r a0 a1 a2 v ln er) (hp : w.heap[p]? = some (.cells #[rP r] 61 (0, 0))) (hs : (s.toList == [111, 112, 101, 110]) = true) :
    Calls Tryz.prog 126 #[.agg #[.int .u8 33, .string s, .int .i64 line], rP p] w fun en w' => (∃ u, en = .returned u) ∧ Hid (RdB w' r a0 a1 a2 .nilFunc (.int .i64 line) (.int .i64 11)) ∧ Hid (Fr [r] w w') := by
  have pw : w.cell? ⟨p, 0, none⟩ = some (.pointer (some ⟨r, 0, none⟩)) := (blk_cells hp).1 0
  have hl := lt_of_heap h
  have hlp := lt_of_heap hp
  have H := Lib.hid h
  clear h hp
  unfold rP
  go_enter Tryz.func126, Tryz.ntmps126
  go_wp2_with fail
  refine (fault_call ((Below.refl _ w).alloc (Nat.le_refl _) _) H.out _ s line 11).mono ?_
  rintro e y ⟨⟨u, rfl⟩, hR, hF⟩
  go_wp2_with fail
  first | go_end0 | refine bodyPost_ret (results_none rfl _ _ _) rfl ?_
  exact ⟨⟨_, rfl⟩, hR, hF⟩
set_option maxRecDepth 100000 in
set_option maxHeartbeats 8000000 in
theorem bt_nil (w : World) (r p : Nat) (k : Int) (s : ByteArray) (line : Int) (a0 a1 a2 v ln er : Value) (h : RdB w r a0 a1 a2 v ln er) (hp : w.heap[p]? = some (.cells #[rP r] 61 (0, 0))) (h1 : (k == 59) = false) (h2 : (k == 99) = false)
    (h3 : (k == 110) = false ∨ (k == 110) = true ∧ (s.toList == [105, 109, 112, 111, 114, 116]) = false) (h4 : (k == 33) = false ∨ (k == 33) = true ∧ (s.toList == [111, 112, 101, 110]) = false) :
    Calls Tryz.prog 126 #[.agg #[.int .u8 k, .string s, .int .i64 line], rP p] w fun en w' => (∃ u, en = .returned u) ∧ Hid (RdB w' r a0 a1 a2 .nilFunc ln er) ∧ Hid (Fr [r] w w') := by
  have pw : w.cell? ⟨p, 0, none⟩ = some (.pointer (some ⟨r, 0, none⟩)) := (blk_cells hp).1 0
  have cw : w.cell? ⟨r, 3, none⟩ = some v := (blk_cells h).1 3
  have fw : w.frozen? ⟨r, 3, none⟩ = false := (blk_cells h).2.1 3
  have hl := lt_of_heap h
  have hlp := lt_of_heap hp
  have hF : Fr [r] w ((w.setCell ⟨r, 3, none⟩ .nilFunc).alloc (.cells #[.int .u8 k, .string s, .int .i64 line] 70)) := (Fr.setCell _ _ _ _ (by simp)).trans (Fr.alloc _ _ _)
  have hR : RdB ((w.setCell ⟨r, 3, none⟩ .nilFunc).alloc (.cells #[.int .u8 k, .string s, .int .i64 line] 70)) r a0 a1 a2 .nilFunc ln er := (Below.heap_alloc _ _ _ (lt_of_heap (h.set _))).trans (h.set _)
  have HF := Lib.hid hF
  have HR := Lib.hid hR
  clear h hp hF hR
  unfold rP
  rcases h3 with h3 | ⟨h3, h5⟩
  · rcases h4 with h4 | ⟨h4, h6⟩
    · go_enter Tryz.func126, Tryz.ntmps126
      go_wp2_with fail
      go_end0
      exact ⟨⟨_, rfl⟩, HR, HF⟩
    · go_enter Tryz.func126, Tryz.ntmps126
      go_wp2_with fail
      go_end0
      exact ⟨⟨_, rfl⟩, HR, HF⟩
  · rcases h4 with h4 | ⟨h4, h6⟩
    · go_enter Tryz.func126, Tryz.ntmps126
      go_wp2_with fail
      go_end0
      exact ⟨⟨_, rfl⟩, HR, HF⟩
    · rw [beq_iff_eq] at h3 h4
      omega
set_option maxRecDepth 100000 in
set_option maxHeartbeats 8000000 in
theorem bt_imp (w : World) (r p : Nat) (s : ByteArray) (line : Int) (a0 a1 a2 v ln er : Value) (h : RdB w r a0 a1 a2 v ln er) (hp : w.heap[p]? = some (.cells #[rP r] 61 (0, 0))) (hs : (s.toList == [105, 109, 112, 111, 114, 116]) = true) :
    Calls Tryz.prog 126 #[.agg #[.int .u8 110, .string s, .int .i64 line], rP p] w fun en w' => (∃ u, en = .returned u) ∧ ∃ v', Hid (RdB w' r a0 a1 a2 v' ln er) ∧ Hid (Fr [r] w w') ∧ Hid (MkAt w' (fun k => w.heap.size ≤ k) r .imports v') := by
  have pw : w.cell? ⟨p, 0, none⟩ = some (.pointer (some ⟨r, 0, none⟩)) := (blk_cells hp).1 0
  have hl := lt_of_heap h
  have hlp := lt_of_heap hp
  obtain ⟨x1, hx1⟩ : ∃ x, x = w.alloc (.cells #[.int .u8 110, .string s, .int .i64 line] 70) := ⟨_, rfl⟩
  have B0 : Below w.heap.size w x1.drew := by rw [hx1]; exact below_drewN ((Below.refl _ w).alloc (Nat.le_refl _) _) 1
  have hp1 : x1.drew.cell? ⟨p, 0, none⟩ = some (.pointer (some ⟨r, 0, none⟩)) := below_cell B0 hlp pw
  have hcall := imports_any x1.drew r
  have HX1 := Lib.hid hx1
  have H := Lib.hid h
  have HB0 := Lib.hid B0
  have HC := Lib.hid hcall
  clear hx1 h hp B0 hcall
  unfold rP
  go_enter Tryz.func126, Tryz.ntmps126
  go_wp2_with fail
  rw [← HX1.out]
  with_reducible refine g_mixx [(0, 0), (1, 0), (2, 2), (3, 1), (4, 1), (5, 3)] (fun w' => w'.cell? ⟨p, 0, none⟩ = some (.pointer (some ⟨r, 0, none⟩))) 0 _ rfl (by kernel_rfl) (by kernel_rfl) ?_ ?_
  · exact hp1
  intro OPS HD
  simp only [mixX, nthO, consX]
  iterate 2 ((with_reducible refine x_val (v := ?_) ?_ ?_ ?_); rotate_left; (rintro _ h1; go_simp; first | done | rfl | (constructor <;> rfl)); exact hp1)
  with_reducible refine x_one ?_
  refine l_call ?_ (HC.out.mono ?_)
  · go_simp
    rfl
  rintro e y ⟨v', rfl, hB, hM⟩
  refine ⟨_, rfl, ?_⟩
  have hsz : w.heap.size ≤ x1.drew.heap.size := HB0.out.size
  refine x_keep (below_cell hB (by omega) hp1) ?_
  obtain ⟨⟨hst, hsf⟩, hR, hF, hK⟩ := set_fin HB0.out hB H.out v'
  have hform := hM.form
  have HR := Lib.hid hR
  have HF := Lib.hid hF
  have HM := Lib.hid (hM.keep (P' := fun k => w.heap.size ≤ k) hK fun k _ hk => Nat.le_trans hsz hk)
  clear hR hF hK hM hB
  iterate 2 ((with_reducible refine x_any (v := ?_) ?_ ?_); rotate_left; (rintro _; go_simp; first | done | rfl | (constructor <;> rfl)))
  with_reducible refine x_three ?_
  with_reducible refine l_skip (w' := y.setCell ⟨r, 3, none⟩ v') ?_ ?_
  · rcases hform with rfl | ⟨f, c, rfl⟩ <;> go_simp
  with_reducible refine x_last ?_
  with_reducible refine x_end ?_
  simp only [Act.put, List.setIfInBounds_toArray, List.set_cons_zero, List.set_cons_succ]
  go_wp2_with fail
  go_end0
  exact ⟨⟨_, rfl⟩, v', HR, HF, HM⟩
end Go.Proofs.YtniphdhbgebedaaGreatDoor
