/-
  What is done with a token: the closures of the package clause, of a name ahead of a path, and between declarations.
-/
import Derived.Test.YtniphdhbgebedaaGreatDoorScRs
namespace Go.Proofs.YtniphdhbgebedaaGreatDoor
open Go.RowKit Go.Maps

set_option linter.unusedSimpArgs false

attribute [local go_sem] lt1 lt2 lt3 lt4 lt5 lt6

set_option maxRecDepth 100000 in
set_option maxHeartbeats 8000000 in
theorem b11_any (w : World) (r p : Nat) (k : Int) (s : ByteArray) (line : Int) (a0 a1 a2 v ln er : Value) (h : RdB w r a0 a1 a2 v ln er) (hp : w.heap[p]? = some (.cells #[rP r] 61 (0, 0))) (hpr : p ≠ r) :
    Calls Tryz.prog 60 #[.agg #[.int .u8 k, .string s, .int .i64 line], rP p] w fun en w' => (∃ u, en = .returned u) ∧ ∃ v', Hid (RdB w' r (.string s) a1 a2 v' ln er) ∧ Hid (Fr [r] w w') ∧ Hid (MkAt w' (fun k => w.heap.size ≤ k) r .ended v') := by
  have hl := lt_of_heap h
  have hlp := lt_of_heap hp
  have cw : w.cell? ⟨r, 0, none⟩ = some a0 := (blk_cells h).1 0
  have fw : w.frozen? ⟨r, 0, none⟩ = false := (blk_cells h).2.1 0
  have pw : w.cell? ⟨p, 0, none⟩ = some (.pointer (some ⟨r, 0, none⟩)) := (blk_cells hp).1 0
  obtain ⟨x1, hx1⟩ : ∃ x, x = (w.setCell ⟨r, 0, none⟩ (.string s)).alloc (.cells #[.int .u8 k, .string s, .int .i64 line] 70) := ⟨_, rfl⟩
  have F1 : Fr [r] w x1.drew := by rw [hx1]; exact ((Fr.setCell [r] _ ⟨r, 0, none⟩ _ (by simp)).trans (Fr.alloc _ _ _)).drewN 1
  have hr1 : RdB x1.drew r (.string s) a1 a2 v ln er := by
    have : RdB (w.setCell ⟨r, 0, none⟩ (.string s)) r (.string s) a1 a2 v ln er := by unfold RdB; rw [heap_setCell_at h]; rfl
    rw [hx1]
    exact (Below.heap_alloc _ _ _ (lt_of_heap this)).trans this
  have hp1 : x1.drew.cell? ⟨p, 0, none⟩ = some (.pointer (some ⟨r, 0, none⟩)) := (blk_cells ((F1.block p hlp (by simp; exact hpr)).trans hp)).1 0
  have hcall := ended_any x1.drew r
  have HX1 := Lib.hid hx1
  have HR1 := Lib.hid hr1
  have HF1 := Lib.hid F1
  have HC := Lib.hid hcall
  clear hx1 h hp hr1 F1 hcall
  unfold rP
  go_enter Tryz.func60, Tryz.ntmps60
  go_wp2_with fail
  rw [← HX1.out]
  with_reducible refine g_mixx [(0, 0), (1, 0), (2, 2), (3, 1), (4, 1), (5, 3)] (fun w' => w'.cell? ⟨p, 0, none⟩ = some (.pointer (some ⟨r, 0, none⟩))) 0 _ rfl (by kernel_rfl) (by kernel_rfl) ?_ ?_
  · exact hp1
  intro OPS HD
  simp only [mixX, nthO, consX]
  iterate 2 ((with_reducible refine x_val (v := ?_) ?_ ?_ ?_); rotate_left; (rintro _ h1; go_simp; first | done | rfl | (constructor <;> rfl)); exact hp1)
  with_reducible refine x_one ?_
  refine l_call ?_ (HC.out.mono ?_)
  · go_simp
    rfl
  rintro e y ⟨v', rfl, hB, hM⟩
  refine ⟨_, rfl, ?_⟩
  have hF1 := HF1.out
  have hsz : w.heap.size ≤ x1.drew.heap.size := hF1.size
  refine x_keep (below_cell hB (by omega) hp1) ?_
  obtain ⟨⟨hst, hsf⟩, hR, hF, hK⟩ := set_fin (Below.refl _ _) hB HR1.out v'
  have hform := hM.form
  have HR := Lib.hid hR
  have HF := Lib.hid (hF1.trans hF)
  have HM := Lib.hid (hM.keep (P' := fun k => w.heap.size ≤ k) hK fun k _ hk => Nat.le_trans hsz hk)
  clear hR hF hK hM hB hF1
  iterate 2 ((with_reducible refine x_any (v := ?_) ?_ ?_); rotate_left; (rintro _; go_simp; first | done | rfl | (constructor <;> rfl)))
  with_reducible refine x_three ?_
  with_reducible refine l_skip (w' := y.setCell ⟨r, 3, none⟩ v') ?_ ?_
  · rcases hform with rfl | ⟨f, c, rfl⟩ <;> go_simp
  with_reducible refine x_last ?_
  with_reducible refine x_end ?_
  simp only [Act.put, List.setIfInBounds_toArray, List.set_cons_zero, List.set_cons_succ]
  go_end0
  exact ⟨⟨_, rfl⟩, v', HR, HF, HM⟩
/-- a map of one step, and what waits by it -/
theorem one_want {y : World} {P : Nat → Prop} {r : Nat} (k : UInt8) (fv : Value) (d : Hd) (hd : HdAt y P r fv d) :
    ∃ y', (Instr.mapUpdate 90 (.map (some y.heap.size)) (kE k) fv).run Tryz.prog (y.alloc (.map #[] 0)) = .ok () y' ∧ Below y.heap.size y y' ∧
      Calls Tryz.prog 56 #[.pointer (some ⟨r, 0, none⟩), .map (some y.heap.size)] y' fun e z => ∃ v, e = .returned v ∧ Hid (Below y.heap.size y z) ∧ Hid (WantAt z (fun j => P j ∨ y.heap.size ≤ j) r [(k, d)] v) := by
  have hA : Below y.heap.size y (y.alloc (.map #[] 0)) := (Below.refl _ y).alloc (Nat.le_refl _) _
  have T0 : HMap (y.alloc (.map #[] 0)) (fun j => P j ∧ j < y.heap.size) r (.map #[] 0) [] := TMap.made _ _ _ _
  obtain ⟨o, hrun, hT⟩ := T0.update u8_law Tryz.underlying90 kE_inj (u8_key k) fv
  have hlt : y.heap.size < (y.alloc (.map #[] 0)).heap.size := by simp
  have hF : Fr [y.heap.size] (y.alloc (.map #[] 0)) (ChangeMaps.setBlock (y.alloc (.map #[] 0)) y.heap.size o) := Fr.setBlock [y.heap.size] _ y.heap.size o (by simp)
  have hB : Below y.heap.size y (ChangeMaps.setBlock (y.alloc (.map #[] 0)) y.heap.size o) := hA.trans (hF.below hA.size (by simp))
  refine ⟨_, hrun _ y.heap.size (heap_alloc_new _ _), hB, ?_⟩
  have hd' : HdAt (ChangeMaps.setBlock (y.alloc (.map #[] 0)) y.heap.size o) (fun j => P j ∧ j < y.heap.size) r fv d := hd.keep (KeepP.of_below hB) fun j hj hp => ⟨hp, hj⟩
  have hM : HMap (ChangeMaps.setBlock (y.alloc (.map #[] 0)) y.heap.size o) (fun j => P j ∧ j < y.heap.size) r o [(k, d)] := hT _ _ (fun v z h => h.keep (KeepP.of_fr hF fun j hj => by simp; omega) fun _ _ h => h) hd'
  have ho : (ChangeMaps.setBlock (y.alloc (.map #[] 0)) y.heap.size o).heap[y.heap.size]? = some o := setBlock_same hlt
  generalize ChangeMaps.setBlock (y.alloc (.map #[] 0)) y.heap.size o = y' at hB hM ho
  refine (want_any y' r y.heap.size).mono ?_
  rintro e z ⟨rfl, rfl⟩
  have hz := lt_of_heap ho
  have hn := heap_alloc_new (y'.alloc (.cells #[rP r] 61)) (.cells #[.map (some y.heap.size)] 90)
  rw [World.size_alloc] at hn
  refine ⟨_, rfl, Lib.hid ((hB.alloc hB.size _).alloc (by have := hB.size; simp; omega) _), Lib.hid ⟨_, _, _, _, rfl, ⟨.inr ?_, (Below.heap_alloc _ _ _ (by simp)).trans (heap_alloc_new _ _)⟩, .inr ?_, hn, .inr (Nat.le_refl _), (Below.heap_alloc _ _ _ (by simp; omega)).trans ((Below.heap_alloc _ _ _ hz).trans ho), ?_⟩⟩
  · exact hB.size
  · have := hB.size; omega
  · exact hM.mono fun v d h => (h.keep (KeepP.alloc _ _ _) fun _ _ h => h).keep (P' := fun j => P j ∨ y.heap.size ≤ j) (KeepP.alloc _ _ _) fun j hj h => .inl h.1
set_option maxRecDepth 100000 in
set_option maxHeartbeats 8000000 in
theorem called_any (w : World) (P : Nat → Prop) (r p c : Nat) (m : Mk) (pv : Value) (A : Value) (hA : ∃ cs : Array Value, A = .agg cs) (a0 a1 a2 v ln er : Value) (h : RdB w r a0 a1 a2 v ln er) (hp : w.heap[p]? = some (.cells #[rP r] 61 (0, 0))) (hpr : p ≠ r) (hcr : c ≠ r) (hPr : ¬ P r)
    (hc : w.heap[c]? = some (.cells #[pv] 62 (0, 0))) (hpv : PathAt w P r pv m) :
    Calls Tryz.prog 171 #[A, rP p, rP c] w fun en w' => (∃ u, en = .returned u) ∧ ∃ v', Hid (RdB w' r a0 a1 a2 v' ln er) ∧ Hid (Fr [r] w w') ∧ Hid (WantAt w' (fun k => P k ∨ w.heap.size ≤ k) r [(115, .path m)] v') := by
  obtain ⟨cs, rfl⟩ := hA
  have hl := lt_of_heap h
  have hlp := lt_of_heap hp
  have hlc := lt_of_heap hc
  obtain ⟨x0, hx0⟩ : ∃ x, x = w.alloc (.cells cs 70) := ⟨_, rfl⟩
  have B0 : Below w.heap.size w x0.drew := by rw [hx0]; exact below_drewN ((Below.refl _ w).alloc (Nat.le_refl _) _) 1
  have hp0 : x0.drew.cell? ⟨p, 0, none⟩ = some (.pointer (some ⟨r, 0, none⟩)) := (blk_cells ((B0.block p hlp).trans hp)).1 0
  have hc0 : x0.drew.cell? ⟨c, 0, none⟩ = some pv := (blk_cells ((B0.block c hlc).trans hc)).1 0
  have hpv0 : HdAt x0.drew P r pv (.path m) := PathAt.keep hpv (KeepP.of_below B0) fun _ _ h => h
  obtain ⟨y', hrun, hBy, hcall⟩ := one_want 115 pv (.path m) hpv0
  rw [kE115] at hrun
  have hmm := @run_makeMap Tryz.prog
  have HX0 := Lib.hid hx0
  have HB0 := Lib.hid B0
  have HBy := Lib.hid hBy
  have H := Lib.hid h
  have HC := Lib.hid hcall
  have hsz : w.heap.size ≤ x0.drew.heap.size := B0.size
  clear hx0 B0 h hp hcall hc hpv hpv0 hBy
  unfold rP
  go_enter Tryz.func171, Tryz.ntmps171
  go_wp2_with fail
  rw [← HX0.out]
  with_reducible refine g_mixx [(0, 0), (1, 0), (3, 0), (2, 2), (4, 2), (5, 1), (6, 2), (7, 1), (8, 1), (9, 3)] (fun w' => w'.cell? ⟨p, 0, none⟩ = some (.pointer (some ⟨r, 0, none⟩)) ∧ w'.cell? ⟨c, 0, none⟩ = some pv) 0 _ rfl (by kernel_rfl) (by kernel_rfl) ?_ ?_
  · exact ⟨hp0, hc0⟩
  obtain ⟨x, hx⟩ : ∃ x, x = x0.drew := ⟨_, rfl⟩
  rw [← hx] at hp0 hc0 hrun HB0 HBy HC hsz ⊢
  clear hx
  intro OPS HD
  simp only [mixX, nthO, consX]
  iterate 3 ((with_reducible refine x_val (v := ?_) ?_ ?_ ?_); rotate_left; (rintro _ ⟨h1, h2⟩; go_simp; first | done | rfl | (constructor <;> rfl)); exact ⟨hp0, hc0⟩)
  with_reducible refine x_one ?_
  with_reducible refine l_val (v := .map (some x.heap.size)) (w' := x.alloc (.map #[] 0)) ?_ ?_
  · go_simp
  have hA := (Below.refl _ x).alloc (Nat.le_refl _) (.map #[] 0)
  refine x_keep ⟨below_cell hA (by omega) hp0, below_cell hA (by omega) hc0⟩ ?_
  with_reducible refine x_one ?_
  with_reducible refine l_skip (w' := y') ?_ ?_
  · go_simp
  have hB := HBy.out
  refine x_keep ⟨below_cell hB (by omega) hp0, below_cell hB (by omega) hc0⟩ ?_
  iterate 1 ((with_reducible refine x_any (v := ?_) ?_ ?_); rotate_left; (rintro _; go_simp; first | done | rfl | (constructor <;> rfl)))
  with_reducible refine x_one ?_
  refine l_call ?_ (HC.out.mono ?_)
  · go_simp
  rintro e z ⟨v', rfl, hBz, hW⟩
  refine ⟨_, rfl, ?_⟩
  refine x_keep ⟨below_cell hBz.out (by omega) hp0, below_cell hBz.out (by omega) hc0⟩ ?_
  obtain ⟨⟨hst, hsf⟩, hR, hF, _⟩ := set_fin HB0.out hBz.out H.out v'
  have hform : FnV v' := by
    obtain ⟨_, _, _, _, rfl, _⟩ := hW.out
    exact .inr ⟨_, _, rfl⟩
  have HR := Lib.hid hR
  have HF := Lib.hid hF
  have HM := Lib.hid (hW.out.keep (P' := fun k => P k ∨ w.heap.size ≤ k) (KeepP.of_fr (Fr.setCell [r] z ⟨r, 3, none⟩ v' (by simp)) fun k hk => by
    simp
    rintro rfl
    rcases hk with hk | hk
    · exact hPr hk
    · omega) fun k _ hk => hk.imp id fun hk => Nat.le_trans hsz hk)
  clear hR hF hW hBz hB hA
  iterate 2 ((with_reducible refine x_any (v := ?_) ?_ ?_); rotate_left; (rintro _; go_simp; first | done | rfl | (constructor <;> rfl)))
  with_reducible refine x_three ?_
  with_reducible refine l_skip (w' := z.setCell ⟨r, 3, none⟩ v') ?_ ?_
  · rcases hform with rfl | ⟨f, c, rfl⟩ <;> go_simp
  with_reducible refine x_last ?_
  with_reducible refine x_end ?_
  simp only [Act.put, List.setIfInBounds_toArray, List.set_cons_zero, List.set_cons_succ]
  go_end0
  exact ⟨⟨_, rfl⟩, v', HR, HF, HM⟩
theorem fault_call {w x : World} {r : Nat} {a0 a1 a2 v ln er : Value} (hw : Below w.heap.size w x) (h : RdB w r a0 a1 a2 v ln er) (k : Int) (s : ByteArray) (line e : Int) :
    Calls Tryz.prog 59 #[.pointer (some ⟨r, 0, none⟩), .agg #[.int .u8 k, .string s, .int .i64 line], .int .i64 e] x fun en w' => (∃ u, en = .returned u) ∧ Hid (RdB w' r a0 a1 a2 .nilFunc (.int .i64 line) (.int .i64 e)) ∧ Hid (Fr [r] w w') := by
  refine (fault_any x r a0 a1 a2 v ln er k s line e ((hw.block r (lt_of_heap h)).trans h)).mono ?_
  rintro en y ⟨hu, hR, hF⟩
  exact ⟨hu, hR, Lib.hid ((Fr.of_below hw _).trans hF.out)⟩
set_option maxRecDepth 100000 in
set_option maxHeartbeats 8000000 in
theorem b1_no (w : World) (r p : Nat) (k : Int) (s : ByteArray) (line : Int) (a0 a1 a2 v ln er : Value) (h : RdB w r a0 a1 a2 v ln er) (hp : w.heap[p]? = some (.cells #[rP r] 61 (0, 0))) (hs : (s.toList == [112, 97, 99, 107, 97, 103, 101]) = false) :
    Calls Tryz.prog 58 #[.agg #[.int .u8 k, .string s, .int .i64 line], rP p] w fun en w' => (∃ u, en = .returned u) ∧ Hid (RdB w' r a0 a1 a2 .nilFunc (.int .i64 line) (.int .i64 11)) ∧ Hid (Fr [r] w w') := by
  have pw : w.cell? ⟨p, 0, none⟩ = some (.pointer (some ⟨r, 0, none⟩)) := (blk_cells hp).1 0
  have hl := lt_of_heap h
  have hlp := lt_of_heap hp
  have H := Lib.hid h
  clear h hp
  unfold rP
  go_enter Tryz.func58, Tryz.ntmps58
  go_wp2_with fail
  refine (fault_call ((Below.refl _ w).alloc (Nat.le_refl _) _) H.out k s line 11).mono ?_
  rintro e y ⟨⟨u, rfl⟩, hR, hF⟩
  go_wp2_with fail
  refine bodyPost_ret (results_none rfl _ _ _) rfl ?_
  exact ⟨⟨_, rfl⟩, hR, hF⟩
set_option maxRecDepth 100000 in
set_option maxHeartbeats 8000000 in
theorem b1_yes (w : World) (P : Nat → Prop) (r p : Nat) (k : Int) (s : ByteArray) (line : Int) (a0 a1 a2 v ln er : Value) (h : RdB w r a0 a1 a2 v ln er) (hPp : P p) (hp : w.heap[p]? = some (.cells #[rP r] 61 (0, 0))) (hs : (s.toList == [112, 97, 99, 107, 97, 103, 101]) = true) (hPr : ¬ P r) :
    Calls Tryz.prog 58 #[.agg #[.int .u8 k, .string s, .int .i64 line], rP p] w fun en w' => (∃ u, en = .returned u) ∧ ∃ v', Hid (RdB w' r a0 a1 a2 v' ln er) ∧ Hid (Fr [r] w w') ∧ Hid (WantAt w' (fun k => P k ∨ w.heap.size ≤ k) r [(110, .b11)] v') := by
  have pw : w.cell? ⟨p, 0, none⟩ = some (.pointer (some ⟨r, 0, none⟩)) := (blk_cells hp).1 0
  have hl := lt_of_heap h
  have hlp := lt_of_heap hp
  have hpr : p ≠ r := fun e => hPr (e ▸ hPp)
  obtain ⟨x0, hx0⟩ : ∃ x, x = w.alloc (.cells #[.int .u8 k, .string s, .int .i64 line] 70) := ⟨_, rfl⟩
  have B0 : Below w.heap.size w x0.drew := by rw [hx0]; exact below_drewN ((Below.refl _ w).alloc (Nat.le_refl _) _) 1
  have hp0 : x0.drew.cell? ⟨p, 0, none⟩ = some (.pointer (some ⟨r, 0, none⟩)) := (blk_cells ((B0.block p hlp).trans hp)).1 0
  have hd0 : HdAt x0.drew P r (.func (.func 60) #[] #[rP p]) .b11 := ⟨p, rfl, hPp, (B0.block p hlp).trans hp⟩
  obtain ⟨y', hrun, hBy, hcall⟩ := one_want 110 _ .b11 hd0
  rw [kE110] at hrun
  have hmm := @run_makeMap Tryz.prog
  have HX0 := Lib.hid hx0
  have HB0 := Lib.hid B0
  have HBy := Lib.hid hBy
  have H := Lib.hid h
  have HC := Lib.hid hcall
  have hsz : w.heap.size ≤ x0.drew.heap.size := B0.size
  clear hx0 B0 h hp hcall hd0 hBy
  unfold rP at hrun ⊢
  go_enter Tryz.func58, Tryz.ntmps58
  go_wp2_with fail
  rw [← HX0.out]
  with_reducible refine g_mixx [(0, 0), (1, 0), (3, 1), (2, 2), (4, 2), (5, 1), (6, 2), (7, 1), (8, 1), (9, 3)] (fun w' => w'.cell? ⟨p, 0, none⟩ = some (.pointer (some ⟨r, 0, none⟩))) 0 _ rfl (by kernel_rfl) (by kernel_rfl) ?_ ?_
  · exact hp0
  obtain ⟨x, hx⟩ : ∃ x, x = x0.drew := ⟨_, rfl⟩
  rw [← hx] at hp0 hrun HB0 HBy HC hsz ⊢
  clear hx
  intro OPS HD
  simp only [mixX, nthO, consX]
  iterate 2 ((with_reducible refine x_val (v := ?_) ?_ ?_ ?_); rotate_left; (rintro _ h1; go_simp; first | done | rfl | (constructor <;> rfl)); exact hp0)
  iterate 1 ((with_reducible refine x_any (v := ?_) ?_ ?_); rotate_left; (rintro _; go_simp; first | done | rfl | (constructor <;> rfl)))
  with_reducible refine x_one ?_
  with_reducible refine l_val (v := .map (some x.heap.size)) (w' := x.alloc (.map #[] 0)) ?_ ?_
  · go_simp
  have hA := (Below.refl _ x).alloc (Nat.le_refl _) (.map #[] 0)
  refine x_keep (below_cell hA (by omega) hp0) ?_
  with_reducible refine x_one ?_
  with_reducible refine l_skip (w' := y') ?_ ?_
  · go_simp
  have hB := HBy.out
  refine x_keep (below_cell hB (by omega) hp0) ?_
  iterate 1 ((with_reducible refine x_any (v := ?_) ?_ ?_); rotate_left; (rintro _; go_simp; first | done | rfl | (constructor <;> rfl)))
  with_reducible refine x_one ?_
  refine l_call ?_ (HC.out.mono ?_)
  · go_simp
  rintro e z ⟨v', rfl, hBz, hW⟩
  refine ⟨_, rfl, ?_⟩
  refine x_keep (below_cell hBz.out (by omega) hp0) ?_
  obtain ⟨⟨hst, hsf⟩, hR, hF, _⟩ := set_fin HB0.out hBz.out H.out v'
  have hform : FnV v' := by
    obtain ⟨_, _, _, _, rfl, _⟩ := hW.out
    exact .inr ⟨_, _, rfl⟩
  have HR := Lib.hid hR
  have HF := Lib.hid hF
  have HM := Lib.hid (hW.out.keep (P' := fun k => P k ∨ w.heap.size ≤ k) (KeepP.of_fr (Fr.setCell [r] z ⟨r, 3, none⟩ v' (by simp)) fun k hk => by
    simp
    rintro rfl
    rcases hk with hk | hk
    · exact hPr hk
    · omega) fun k _ hk => hk.imp id fun hk => Nat.le_trans hsz hk)
  clear hR hF hW hBz hB hA
  iterate 2 ((with_reducible refine x_any (v := ?_) ?_ ?_); rotate_left; (rintro _; go_simp; first | done | rfl | (constructor <;> rfl)))
  with_reducible refine x_three ?_
  with_reducible refine l_skip (w' := z.setCell ⟨r, 3, none⟩ v') ?_ ?_
  · rcases hform with rfl | ⟨f, c, rfl⟩ <;> go_simp
  with_reducible refine x_last ?_
  with_reducible refine x_end ?_
  simp only [Act.put, List.setIfInBounds_toArray, List.set_cons_zero, List.set_cons_succ]
  go_end0
  exact ⟨⟨_, rfl⟩, v', HR, HF, HM⟩
end Go.Proofs.YtniphdhbgebedaaGreatDoor