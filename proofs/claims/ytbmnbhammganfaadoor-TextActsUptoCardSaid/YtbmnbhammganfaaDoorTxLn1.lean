/-
  line: the document's line of an act, some of its cases.
-/
import Derived.Test.YtbmnbhammganfaaDoorTxLn0
namespace Go.Proofs.YtbmnbhammganfaaDoor
open Go.RowKit Go.Maps

set_option linter.unusedSimpArgs false

attribute [local go_sem] lt1 lt2 lt3 lt4 lt5 lt6

set_option maxRecDepth 100000 in
set_option maxHeartbeats 8000000 in
theorem line_k2 (w : World) (a : ActD) (A1 A2 : Option Addr) (c1 c2 : Nat) (hw : Lw w) (ha : ActOk a) (h1 : Bs w A1 c1 a.data) (h2 : Bs w A2 c2 a.fdata) (hk : a.kind = 2) :
    Calls Tryd.prog 21 #[.agg (actV a (.slice A1 a.data.length c1) (.slice A2 a.fdata.length c2)).toArray] w (LnPost w a) := by
  have Hw := Lib.hid hw
  have Ha := Lib.hid ha
  have H1 := Lib.hid h1
  have H2 := Lib.hid h2
  have Hl := Lib.hid (rformat_eq a)
  have Hb : Hid (∀ W : World, Bs W A1 c1 a.data → Bs W A2 c2 a.fdata → ActBox W (actV a (.slice A1 a.data.length c1) (.slice A2 a.fdata.length c2)).toArray a) := Lib.hid fun W k1 k2 => ⟨A1, c1, A2, c2, rfl, k1, k2⟩
  clear hw ha h1 h2
  obtain ⟨kind, ck, path, ver, name, data, n, m, url, att, fk, fn, fdata⟩ := a
  simp only at hk
  subst hk
  have HLR : Hid (lineR (⟨2, ck, path, ver, name, data, n, m, url, att, fk, fn, fdata⟩ : ActD) = (⟨2, 0, [], []⟩ : RActD)) := Lib.hid (by simp [lineR])
  have HSR : Hid (shortR (lineR (⟨2, ck, path, ver, name, data, n, m, url, att, fk, fn, fdata⟩ : ActD)) = (⟨2, 0, [], []⟩ : RActD)) := Lib.hid (by simp [lineR, shortR])
  have HK : Hid (knownR (lineR (⟨2, ck, path, ver, name, data, n, m, url, att, fk, fn, fdata⟩ : ActD))) := Lib.hid (by simp [lineR, knownR]; try omega)
  simp only [actV] at Hb ⊢
  obtain ⟨P1, hP1⟩ : ∃ x, x = mkS path := ⟨_, rfl⟩
  obtain ⟨P2, hP2⟩ : ∃ x, x = mkS ver := ⟨_, rfl⟩
  obtain ⟨P3, hP3⟩ : ∃ x, x = mkS name := ⟨_, rfl⟩
  obtain ⟨P4, hP4⟩ : ∃ x, x = mkS url := ⟨_, rfl⟩
  rw [← hP1, ← hP2, ← hP3, ← hP4] at Hb ⊢
  have HP1 := Lib.hid hP1
  have HP2 := Lib.hid hP2
  have HP3 := Lib.hid hP3
  have HP4 := Lib.hid hP4
  obtain ⟨L1, hL1⟩ : ∃ x, x = data.length := ⟨_, rfl⟩
  obtain ⟨L2, hL2⟩ : ∃ x, x = fdata.length := ⟨_, rfl⟩
  rw [← hL1, ← hL2] at Hb ⊢
  clear hP1 hP2 hP3 hP4 hL1 hL2
  go_enter Tryd.func21, Tryd.ntmps21
  go_wp2_with fail
  generalize hx : World.alloc (World.alloc (World.alloc w _) _) _ = x
  have hxa : x.heap[w.heap.size]? = some (.cells #[.int .i64 2, .int .i64 ck, .string P1, .string P2, .string P3, .slice A1 L1 c1, .int .i64 n, .int .i64 m, .string P4, .int .i64 att, .int .i64 fk, .int .i64 fn, .slice A2 L2 c2] 28 (0, 0)) := by rw [← hx]; simp only [heap_alloc_if, World.size_alloc]; (repeat (rw [if_neg (by omega)])); first | rfl | (rw [if_pos trivial]; rfl)
  have hxb : x.heap[w.heap.size + 1]? = some (.cells #[.int .i64 2, .int .i64 0, .slice none 0 0, .slice none 0 0] 49 (0, 0)) := by rw [← hx]; simp only [heap_alloc_if, World.size_alloc]; (repeat (rw [if_neg (by omega)])); first | rfl | (rw [if_pos trivial]; rfl)
  have hxs : x.heap[w.heap.size + 1 + 1]? = some (.cells #[.int .i64 2, .int .i64 0, .slice none 0 0, .slice none 0 0] 49 (0, 0)) := by rw [← hx]; simp only [heap_alloc_if, World.size_alloc]; (repeat (rw [if_neg (by omega)])); first | rfl | (rw [if_pos trivial]; rfl)
  have hB : Below w.heap.size w x := by rw [← hx]; exact ⟨rfl, rfl, rfl, by simp; omega, fun q hq => by simp only [heap_alloc_if, World.size_alloc]; repeat (rw [if_neg (by omega)])⟩
  have hbR : RBox x #[.int .i64 2, .int .i64 0, .slice none 0 0, .slice none 0 0] (⟨2, 0, [], []⟩ : RActD) := rbox_mk (R := (⟨2, 0, [], []⟩ : RActD)) (D := []) (by simp [HP1.out, HP2.out, HP3.out, HP4.out, toL_mkS]) (sl_none _) (sl_none _) rfl rfl
  have hbS : RBox x #[.int .i64 2, .int .i64 0, .slice none 0 0, .slice none 0 0] (⟨2, 0, [], []⟩ : RActD) := rbox_mk (R := (⟨2, 0, [], []⟩ : RActD)) (D := []) (by simp [HP1.out, HP2.out, HP3.out, HP4.out, toL_mkS]) (sl_none _) (sl_none _) rfl rfl
  have hbA := Hb.out x (H1.out.keep (Cells.of_below hB)) (H2.out.keep (Cells.of_below hB))
  obtain ⟨rs, hrs⟩ : ∃ rs, rs = w.heap.size + 1 + 1 := ⟨_, rfl⟩
  have HbA := Lib.hid hbA
  rw [← hrs] at hxs ⊢
  have HbR := Lib.hid hbR
  have HbS := Lib.hid hbS
  have HB := Lib.hid hB
  have Hxa := Lib.hid hxa
  have Hxb := Lib.hid hxb
  have Hxs := Lib.hid hxs
  have ra : x.drew.rangeAt w.heap.size 0 [.int .i64 2, .int .i64 ck, .string P1, .string P2, .string P3, .slice A1 L1 c1, .int .i64 n, .int .i64 m, .string P4, .int .i64 att, .int .i64 fk, .int .i64 fn, .slice A2 L2 c2] := rangeAt_of hxa
  have rsh : x.drew.rangeAt rs 0 [.int .i64 2, .int .i64 0, .slice none 0 0, .slice none 0 0] := rangeAt_of hxs
  have hws := HB.out.size
  clear hx hbR hbS hB hxa hxb hxs hrs hbA  
  with_reducible refine g_mixx [(0, 1), (1, 1), (2, 0), (4, 0), (3, 2), (5, 2), (6, 0), (7, 0), (8, 0)] (fun w' => w'.rangeAt w.heap.size 0 [.int .i64 2, .int .i64 ck, .string P1, .string P2, .string P3, .slice A1 L1 c1, .int .i64 n, .int .i64 m, .string P4, .int .i64 att, .int .i64 fk, .int .i64 fn, .slice A2 L2 c2] ∧ w'.rangeAt rs 0 [.int .i64 2, .int .i64 0, .slice none 0 0, .slice none 0 0]) 1 (some 136) rfl (by kernel_rfl) (by kernel_rfl) ?_ ?_
  · exact ⟨ra, rsh⟩
  intro OPS HD
  simp only [mixX, nthO, consX]
  iterate 2 ((with_reducible refine x_any (v := ?_) ?_ ?_); rotate_left; (rintro _; go_simp; first | done | rfl | (constructor <;> rfl)))
  refine x_valg HD (by go_simp) (fun wy hy => run_load_row 49 (.tmp 5) rs 0 (by simp [Act.eval, Act.put]) [.int .i64 2, .int .i64 0, .slice none 0 0, .slice none 0 0] hy.2 Tryd.underlying49 rfl sizeR) ⟨ra, rsh⟩ ?_
  refine x_valg HD (by go_simp) (fun wy hy => run_load_row 28 (.tmp 1) w.heap.size 0 (by simp [Act.eval, Act.put]) [.int .i64 2, .int .i64 ck, .string P1, .string P2, .string P3, .slice A1 L1 c1, .int .i64 n, .int .i64 m, .string P4, .int .i64 att, .int .i64 fk, .int .i64 fn, .slice A2 L2 c2] hy.1 Tryd.underlying28 rfl sizeAct) ⟨ra, rsh⟩ ?_
  with_reducible refine x_one ?_
  refine l_onceg HD (by go_simp) ?_
  refine l_call ?_ ((act_ref x.drew #[.int .i64 2, .int .i64 0, .slice none 0 0, .slice none 0 0] (⟨2, 0, [], []⟩ : RActD) (HbS.out.keep fun _ _ h => h) (by rw [← HSR.out]; exact line_wf Ha.out HK.out)).mono ?_)
  · go_simp
  rintro e x1 ⟨VA, rfl, hVA, hB1⟩
  refine ⟨_, rfl, ?_⟩
  have hxd : x.drew.heap.size = x.heap.size := rfl
  have ra1 : x1.rangeAt w.heap.size 0 [.int .i64 2, .int .i64 ck, .string P1, .string P2, .string P3, .slice A1 L1 c1, .int .i64 n, .int .i64 m, .string P4, .int .i64 att, .int .i64 fk, .int .i64 fn, .slice A2 L2 c2] := rangeAt_of ((hB1.block _ (lt_of_heap Hxa.out)).trans Hxa.out)
  have rs1 : x1.rangeAt rs 0 [.int .i64 2, .int .i64 0, .slice none 0 0, .slice none 0 0] := rangeAt_of ((hB1.block _ (lt_of_heap Hxs.out)).trans Hxs.out)
  refine x_keep ⟨ra1, rs1⟩ ?_
  with_reducible refine x_one ?_
  refine l_onceg HD (by go_simp) ?_
  have hbA1 := HbA.out.keep (w' := x1) (fun p v h => Cells.of_below hB1 p v h)
  refine l_call ?_ ((hVA.same hbA1).mono ?_)
  · go_simp
  rintro e x2 ⟨rfl, hB2⟩
  refine ⟨_, rfl, ?_⟩
  obtain ⟨sm, hsm⟩ : ∃ sm, sm = decide (actR (⟨2, 0, [], []⟩ : RActD) = (⟨2, ck, path, ver, name, data, n, m, url, att, fk, fn, fdata⟩ : ActD)) := ⟨_, rfl⟩
  have HBad : Hid ((!sm) = badA (⟨2, ck, path, ver, name, data, n, m, url, att, fk, fn, fdata⟩ : ActD)) := Lib.hid (by
    unfold badA
    rw [decide_eq_true HK.out, Bool.true_and, HSR.out, ← hsm])
  have hB12 : Below x.heap.size x x2 := (show Below x.heap.size x x1 from ⟨hB1.os, hB1.tape, hB1.output, hB1.size, hB1.block⟩).trans (hB2.mono hB1.size)
  have ra2 : x2.rangeAt w.heap.size 0 [.int .i64 2, .int .i64 ck, .string P1, .string P2, .string P3, .slice A1 L1 c1, .int .i64 n, .int .i64 m, .string P4, .int .i64 att, .int .i64 fk, .int .i64 fn, .slice A2 L2 c2] := rangeAt_of ((hB12.block _ (lt_of_heap Hxa.out)).trans Hxa.out)
  have rs2 : x2.rangeAt rs 0 [.int .i64 2, .int .i64 0, .slice none 0 0, .slice none 0 0] := rangeAt_of ((hB12.block _ (lt_of_heap Hxs.out)).trans Hxs.out)
  refine x_keep ⟨ra2, rs2⟩ ?_
  iterate 1 ((with_reducible refine x_valg (v := ?_) HD ?_ ?_ ?_ ?_); rotate_left; go_simp; (rintro _ h; go_simp; first | done | rfl | (constructor <;> rfl)); exact ⟨ra2, rs2⟩)
  iterate 2 ((with_reducible refine x_val (v := ?_) ?_ ?_ ?_); rotate_left; (rintro _ h; go_simp; first | done | rfl | (constructor <;> rfl)); exact ⟨ra2, rs2⟩)
  with_reducible refine x_end ?_
  simp only [Act.put, List.setIfInBounds_toArray, List.set_cons_zero, List.set_cons_succ]
  obtain ⟨bd, hbd⟩ : ∃ bd, bd = !sm := ⟨_, rfl⟩
  rw [← hsm, ← hbd]
  have HBd : Hid (badA (⟨2, ck, path, ver, name, data, n, m, url, att, fk, fn, fdata⟩ : ActD) = bd) := Lib.hid (by rw [hbd, HBad.out])
  obtain ⟨q0, q1, q2, q3⟩ := row4 ((hB12.block _ (lt_of_heap Hxb.out)).trans Hxb.out)
  have hbR2 := HbR.out.keep (Cells.of_below hB12)
  have HB2 := Lib.hid (HB.out.trans (hB12.mono HB.out.size))
  have HbR2 := Lib.hid hbR2
  clear ra rsh hB12 hbR2 HD hsm hbd ra1 rs1 ra2 rs2 hxd hVA hbA1 hB1 hB2
  go_wp2_with fail
  refine (rformat_ref x2 _ (⟨2, 0, [], []⟩ : RActD) bd (Hw.out.below HB2.out) HbR2.out (by rw [← HLR.out]; exact line_small Ha.out) (by rw [← HLR.out]; exact line_nums Ha.out) (by rw [← HLR.out]; exact line_cnt _)).mono ?_
  rintro e x3 ⟨rfl, hB3⟩
  have HFin : Hid (LnPost w (⟨2, ck, path, ver, name, data, n, m, url, att, fk, fn, fdata⟩ : ActD) (.returned (.tuple #[.string (mkS (rformat (⟨2, 0, [], []⟩ : RActD) bd).1), .int .i64 (rformat (⟨2, 0, [], []⟩ : RActD) bd).2])) x3) := Lib.hid (by
    have := Hl.out
    rw [HLR.out, HBd.out] at this
    unfold LnPost
    rw [← this]
    exact ⟨rfl, HB2.out.trans (hB3.mono HB2.out.size)⟩)
  generalize rformat (⟨2, 0, [], []⟩ : RActD) bd = pr at *
  obtain ⟨p1, p2⟩ := pr
  simp only at HFin ⊢
  obtain ⟨QF, hQF⟩ : ∃ QF, QF = mkS p1 := ⟨_, rfl⟩
  rw [← hQF] at HFin ⊢
  clear hB3 hQF
  go_wp2_with fail
  go_ret2
  exact HFin.out
set_option maxRecDepth 100000 in
set_option maxHeartbeats 8000000 in
theorem line_k3 (w : World) (a : ActD) (A1 A2 : Option Addr) (c1 c2 : Nat) (hw : Lw w) (ha : ActOk a) (h1 : Bs w A1 c1 a.data) (h2 : Bs w A2 c2 a.fdata) (hk : a.kind = 3) :
    Calls Tryd.prog 21 #[.agg (actV a (.slice A1 a.data.length c1) (.slice A2 a.fdata.length c2)).toArray] w (LnPost w a) := by
  have Hw := Lib.hid hw
  have Ha := Lib.hid ha
  have H1 := Lib.hid h1
  have H2 := Lib.hid h2
  have Hl := Lib.hid (rformat_eq a)
  have Hb : Hid (∀ W : World, Bs W A1 c1 a.data → Bs W A2 c2 a.fdata → ActBox W (actV a (.slice A1 a.data.length c1) (.slice A2 a.fdata.length c2)).toArray a) := Lib.hid fun W k1 k2 => ⟨A1, c1, A2, c2, rfl, k1, k2⟩
  clear hw ha h1 h2
  obtain ⟨kind, ck, path, ver, name, data, n, m, url, att, fk, fn, fdata⟩ := a
  simp only at hk
  subst hk
  have HLR : Hid (lineR (⟨3, ck, path, ver, name, data, n, m, url, att, fk, fn, fdata⟩ : ActD) = (⟨3, 0, [], []⟩ : RActD)) := Lib.hid (by simp [lineR])
  have HSR : Hid (shortR (lineR (⟨3, ck, path, ver, name, data, n, m, url, att, fk, fn, fdata⟩ : ActD)) = (⟨3, 0, [], []⟩ : RActD)) := Lib.hid (by simp [lineR, shortR])
  have HK : Hid (knownR (lineR (⟨3, ck, path, ver, name, data, n, m, url, att, fk, fn, fdata⟩ : ActD))) := Lib.hid (by simp [lineR, knownR]; try omega)
  simp only [actV] at Hb ⊢
  obtain ⟨P1, hP1⟩ : ∃ x, x = mkS path := ⟨_, rfl⟩
  obtain ⟨P2, hP2⟩ : ∃ x, x = mkS ver := ⟨_, rfl⟩
  obtain ⟨P3, hP3⟩ : ∃ x, x = mkS name := ⟨_, rfl⟩
  obtain ⟨P4, hP4⟩ : ∃ x, x = mkS url := ⟨_, rfl⟩
  rw [← hP1, ← hP2, ← hP3, ← hP4] at Hb ⊢
  have HP1 := Lib.hid hP1
  have HP2 := Lib.hid hP2
  have HP3 := Lib.hid hP3
  have HP4 := Lib.hid hP4
  obtain ⟨L1, hL1⟩ : ∃ x, x = data.length := ⟨_, rfl⟩
  obtain ⟨L2, hL2⟩ : ∃ x, x = fdata.length := ⟨_, rfl⟩
  rw [← hL1, ← hL2] at Hb ⊢
  clear hP1 hP2 hP3 hP4 hL1 hL2
  go_enter Tryd.func21, Tryd.ntmps21
  go_wp2_with fail
  generalize hx : World.alloc (World.alloc (World.alloc w _) _) _ = x
  have hxa : x.heap[w.heap.size]? = some (.cells #[.int .i64 3, .int .i64 ck, .string P1, .string P2, .string P3, .slice A1 L1 c1, .int .i64 n, .int .i64 m, .string P4, .int .i64 att, .int .i64 fk, .int .i64 fn, .slice A2 L2 c2] 28 (0, 0)) := by rw [← hx]; simp only [heap_alloc_if, World.size_alloc]; (repeat (rw [if_neg (by omega)])); first | rfl | (rw [if_pos trivial]; rfl)
  have hxb : x.heap[w.heap.size + 1]? = some (.cells #[.int .i64 3, .int .i64 0, .slice none 0 0, .slice none 0 0] 49 (0, 0)) := by rw [← hx]; simp only [heap_alloc_if, World.size_alloc]; (repeat (rw [if_neg (by omega)])); first | rfl | (rw [if_pos trivial]; rfl)
  have hxs : x.heap[w.heap.size + 1 + 1]? = some (.cells #[.int .i64 3, .int .i64 0, .slice none 0 0, .slice none 0 0] 49 (0, 0)) := by rw [← hx]; simp only [heap_alloc_if, World.size_alloc]; (repeat (rw [if_neg (by omega)])); first | rfl | (rw [if_pos trivial]; rfl)
  have hB : Below w.heap.size w x := by rw [← hx]; exact ⟨rfl, rfl, rfl, by simp; omega, fun q hq => by simp only [heap_alloc_if, World.size_alloc]; repeat (rw [if_neg (by omega)])⟩
  have hbR : RBox x #[.int .i64 3, .int .i64 0, .slice none 0 0, .slice none 0 0] (⟨3, 0, [], []⟩ : RActD) := rbox_mk (R := (⟨3, 0, [], []⟩ : RActD)) (D := []) (by simp [HP1.out, HP2.out, HP3.out, HP4.out, toL_mkS]) (sl_none _) (sl_none _) rfl rfl
  have hbS : RBox x #[.int .i64 3, .int .i64 0, .slice none 0 0, .slice none 0 0] (⟨3, 0, [], []⟩ : RActD) := rbox_mk (R := (⟨3, 0, [], []⟩ : RActD)) (D := []) (by simp [HP1.out, HP2.out, HP3.out, HP4.out, toL_mkS]) (sl_none _) (sl_none _) rfl rfl
  have hbA := Hb.out x (H1.out.keep (Cells.of_below hB)) (H2.out.keep (Cells.of_below hB))
  obtain ⟨rs, hrs⟩ : ∃ rs, rs = w.heap.size + 1 + 1 := ⟨_, rfl⟩
  have HbA := Lib.hid hbA
  rw [← hrs] at hxs ⊢
  have HbR := Lib.hid hbR
  have HbS := Lib.hid hbS
  have HB := Lib.hid hB
  have Hxa := Lib.hid hxa
  have Hxb := Lib.hid hxb
  have Hxs := Lib.hid hxs
  have ra : x.drew.rangeAt w.heap.size 0 [.int .i64 3, .int .i64 ck, .string P1, .string P2, .string P3, .slice A1 L1 c1, .int .i64 n, .int .i64 m, .string P4, .int .i64 att, .int .i64 fk, .int .i64 fn, .slice A2 L2 c2] := rangeAt_of hxa
  have rsh : x.drew.rangeAt rs 0 [.int .i64 3, .int .i64 0, .slice none 0 0, .slice none 0 0] := rangeAt_of hxs
  have hws := HB.out.size
  clear hx hbR hbS hB hxa hxb hxs hrs hbA  
  with_reducible refine g_mixx [(0, 1), (1, 1), (2, 0), (4, 0), (3, 2), (5, 2), (6, 0), (7, 0), (8, 0)] (fun w' => w'.rangeAt w.heap.size 0 [.int .i64 3, .int .i64 ck, .string P1, .string P2, .string P3, .slice A1 L1 c1, .int .i64 n, .int .i64 m, .string P4, .int .i64 att, .int .i64 fk, .int .i64 fn, .slice A2 L2 c2] ∧ w'.rangeAt rs 0 [.int .i64 3, .int .i64 0, .slice none 0 0, .slice none 0 0]) 1 (some 136) rfl (by kernel_rfl) (by kernel_rfl) ?_ ?_
  · exact ⟨ra, rsh⟩
  intro OPS HD
  simp only [mixX, nthO, consX]
  iterate 2 ((with_reducible refine x_any (v := ?_) ?_ ?_); rotate_left; (rintro _; go_simp; first | done | rfl | (constructor <;> rfl)))
  refine x_valg HD (by go_simp) (fun wy hy => run_load_row 49 (.tmp 5) rs 0 (by simp [Act.eval, Act.put]) [.int .i64 3, .int .i64 0, .slice none 0 0, .slice none 0 0] hy.2 Tryd.underlying49 rfl sizeR) ⟨ra, rsh⟩ ?_
  refine x_valg HD (by go_simp) (fun wy hy => run_load_row 28 (.tmp 1) w.heap.size 0 (by simp [Act.eval, Act.put]) [.int .i64 3, .int .i64 ck, .string P1, .string P2, .string P3, .slice A1 L1 c1, .int .i64 n, .int .i64 m, .string P4, .int .i64 att, .int .i64 fk, .int .i64 fn, .slice A2 L2 c2] hy.1 Tryd.underlying28 rfl sizeAct) ⟨ra, rsh⟩ ?_
  with_reducible refine x_one ?_
  refine l_onceg HD (by go_simp) ?_
  refine l_call ?_ ((act_ref x.drew #[.int .i64 3, .int .i64 0, .slice none 0 0, .slice none 0 0] (⟨3, 0, [], []⟩ : RActD) (HbS.out.keep fun _ _ h => h) (by rw [← HSR.out]; exact line_wf Ha.out HK.out)).mono ?_)
  · go_simp
  rintro e x1 ⟨VA, rfl, hVA, hB1⟩
  refine ⟨_, rfl, ?_⟩
  have hxd : x.drew.heap.size = x.heap.size := rfl
  have ra1 : x1.rangeAt w.heap.size 0 [.int .i64 3, .int .i64 ck, .string P1, .string P2, .string P3, .slice A1 L1 c1, .int .i64 n, .int .i64 m, .string P4, .int .i64 att, .int .i64 fk, .int .i64 fn, .slice A2 L2 c2] := rangeAt_of ((hB1.block _ (lt_of_heap Hxa.out)).trans Hxa.out)
  have rs1 : x1.rangeAt rs 0 [.int .i64 3, .int .i64 0, .slice none 0 0, .slice none 0 0] := rangeAt_of ((hB1.block _ (lt_of_heap Hxs.out)).trans Hxs.out)
  refine x_keep ⟨ra1, rs1⟩ ?_
  with_reducible refine x_one ?_
  refine l_onceg HD (by go_simp) ?_
  have hbA1 := HbA.out.keep (w' := x1) (fun p v h => Cells.of_below hB1 p v h)
  refine l_call ?_ ((hVA.same hbA1).mono ?_)
  · go_simp
  rintro e x2 ⟨rfl, hB2⟩
  refine ⟨_, rfl, ?_⟩
  obtain ⟨sm, hsm⟩ : ∃ sm, sm = decide (actR (⟨3, 0, [], []⟩ : RActD) = (⟨3, ck, path, ver, name, data, n, m, url, att, fk, fn, fdata⟩ : ActD)) := ⟨_, rfl⟩
  have HBad : Hid ((!sm) = badA (⟨3, ck, path, ver, name, data, n, m, url, att, fk, fn, fdata⟩ : ActD)) := Lib.hid (by
    unfold badA
    rw [decide_eq_true HK.out, Bool.true_and, HSR.out, ← hsm])
  have hB12 : Below x.heap.size x x2 := (show Below x.heap.size x x1 from ⟨hB1.os, hB1.tape, hB1.output, hB1.size, hB1.block⟩).trans (hB2.mono hB1.size)
  have ra2 : x2.rangeAt w.heap.size 0 [.int .i64 3, .int .i64 ck, .string P1, .string P2, .string P3, .slice A1 L1 c1, .int .i64 n, .int .i64 m, .string P4, .int .i64 att, .int .i64 fk, .int .i64 fn, .slice A2 L2 c2] := rangeAt_of ((hB12.block _ (lt_of_heap Hxa.out)).trans Hxa.out)
  have rs2 : x2.rangeAt rs 0 [.int .i64 3, .int .i64 0, .slice none 0 0, .slice none 0 0] := rangeAt_of ((hB12.block _ (lt_of_heap Hxs.out)).trans Hxs.out)
  refine x_keep ⟨ra2, rs2⟩ ?_
  iterate 1 ((with_reducible refine x_valg (v := ?_) HD ?_ ?_ ?_ ?_); rotate_left; go_simp; (rintro _ h; go_simp; first | done | rfl | (constructor <;> rfl)); exact ⟨ra2, rs2⟩)
  iterate 2 ((with_reducible refine x_val (v := ?_) ?_ ?_ ?_); rotate_left; (rintro _ h; go_simp; first | done | rfl | (constructor <;> rfl)); exact ⟨ra2, rs2⟩)
  with_reducible refine x_end ?_
  simp only [Act.put, List.setIfInBounds_toArray, List.set_cons_zero, List.set_cons_succ]
  obtain ⟨bd, hbd⟩ : ∃ bd, bd = !sm := ⟨_, rfl⟩
  rw [← hsm, ← hbd]
  have HBd : Hid (badA (⟨3, ck, path, ver, name, data, n, m, url, att, fk, fn, fdata⟩ : ActD) = bd) := Lib.hid (by rw [hbd, HBad.out])
  obtain ⟨q0, q1, q2, q3⟩ := row4 ((hB12.block _ (lt_of_heap Hxb.out)).trans Hxb.out)
  have hbR2 := HbR.out.keep (Cells.of_below hB12)
  have HB2 := Lib.hid (HB.out.trans (hB12.mono HB.out.size))
  have HbR2 := Lib.hid hbR2
  clear ra rsh hB12 hbR2 HD hsm hbd ra1 rs1 ra2 rs2 hxd hVA hbA1 hB1 hB2
  go_wp2_with fail
  refine (rformat_ref x2 _ (⟨3, 0, [], []⟩ : RActD) bd (Hw.out.below HB2.out) HbR2.out (by rw [← HLR.out]; exact line_small Ha.out) (by rw [← HLR.out]; exact line_nums Ha.out) (by rw [← HLR.out]; exact line_cnt _)).mono ?_
  rintro e x3 ⟨rfl, hB3⟩
  have HFin : Hid (LnPost w (⟨3, ck, path, ver, name, data, n, m, url, att, fk, fn, fdata⟩ : ActD) (.returned (.tuple #[.string (mkS (rformat (⟨3, 0, [], []⟩ : RActD) bd).1), .int .i64 (rformat (⟨3, 0, [], []⟩ : RActD) bd).2])) x3) := Lib.hid (by
    have := Hl.out
    rw [HLR.out, HBd.out] at this
    unfold LnPost
    rw [← this]
    exact ⟨rfl, HB2.out.trans (hB3.mono HB2.out.size)⟩)
  generalize rformat (⟨3, 0, [], []⟩ : RActD) bd = pr at *
  obtain ⟨p1, p2⟩ := pr
  simp only at HFin ⊢
  obtain ⟨QF, hQF⟩ : ∃ QF, QF = mkS p1 := ⟨_, rfl⟩
  rw [← hQF] at HFin ⊢
  clear hB3 hQF
  go_wp2_with fail
  go_ret2
  exact HFin.out
set_option maxRecDepth 100000 in
set_option maxHeartbeats 8000000 in
theorem line_k4 (w : World) (a : ActD) (A1 A2 : Option Addr) (c1 c2 : Nat) (hw : Lw w) (ha : ActOk a) (h1 : Bs w A1 c1 a.data) (h2 : Bs w A2 c2 a.fdata) (hk : a.kind = 4) :
    Calls Tryd.prog 21 #[.agg (actV a (.slice A1 a.data.length c1) (.slice A2 a.fdata.length c2)).toArray] w (LnPost w a) := by
  have Hw := Lib.hid hw
  have Ha := Lib.hid ha
  have H1 := Lib.hid h1
  have H2 := Lib.hid h2
  have Hl := Lib.hid (rformat_eq a)
  have Hb : Hid (∀ W : World, Bs W A1 c1 a.data → Bs W A2 c2 a.fdata → ActBox W (actV a (.slice A1 a.data.length c1) (.slice A2 a.fdata.length c2)).toArray a) := Lib.hid fun W k1 k2 => ⟨A1, c1, A2, c2, rfl, k1, k2⟩
  clear hw ha h1 h2
  obtain ⟨kind, ck, path, ver, name, data, n, m, url, att, fk, fn, fdata⟩ := a
  simp only at hk
  subst hk
  have HLR : Hid (lineR (⟨4, ck, path, ver, name, data, n, m, url, att, fk, fn, fdata⟩ : ActD) = (⟨4, 0, [], [n, m]⟩ : RActD)) := Lib.hid (by simp [lineR])
  have HSR : Hid (shortR (lineR (⟨4, ck, path, ver, name, data, n, m, url, att, fk, fn, fdata⟩ : ActD)) = (⟨4, 0, [], [n, m]⟩ : RActD)) := Lib.hid (by simp [lineR, shortR])
  have HK : Hid (knownR (lineR (⟨4, ck, path, ver, name, data, n, m, url, att, fk, fn, fdata⟩ : ActD))) := Lib.hid (by simp [lineR, knownR]; try omega)
  simp only [actV] at Hb ⊢
  obtain ⟨P1, hP1⟩ : ∃ x, x = mkS path := ⟨_, rfl⟩
  obtain ⟨P2, hP2⟩ : ∃ x, x = mkS ver := ⟨_, rfl⟩
  obtain ⟨P3, hP3⟩ : ∃ x, x = mkS name := ⟨_, rfl⟩
  obtain ⟨P4, hP4⟩ : ∃ x, x = mkS url := ⟨_, rfl⟩
  rw [← hP1, ← hP2, ← hP3, ← hP4] at Hb ⊢
  have HP1 := Lib.hid hP1
  have HP2 := Lib.hid hP2
  have HP3 := Lib.hid hP3
  have HP4 := Lib.hid hP4
  obtain ⟨L1, hL1⟩ : ∃ x, x = data.length := ⟨_, rfl⟩
  obtain ⟨L2, hL2⟩ : ∃ x, x = fdata.length := ⟨_, rfl⟩
  rw [← hL1, ← hL2] at Hb ⊢
  clear hP1 hP2 hP3 hP4 hL1 hL2
  go_enter Tryd.func21, Tryd.ntmps21
  go_wp2_with fail
  generalize hx : World.alloc (World.alloc (World.alloc (World.alloc w _) _) _) _ = x
  have hxa : x.heap[w.heap.size]? = some (.cells #[.int .i64 4, .int .i64 ck, .string P1, .string P2, .string P3, .slice A1 L1 c1, .int .i64 n, .int .i64 m, .string P4, .int .i64 att, .int .i64 fk, .int .i64 fn, .slice A2 L2 c2] 28 (0, 0)) := by rw [← hx]; simp only [heap_alloc_if, World.size_alloc]; (repeat (rw [if_neg (by omega)])); first | rfl | (rw [if_pos trivial]; rfl)
  have hxb : x.heap[w.heap.size + 1]? = some (.cells #[.int .i64 4, .int .i64 0, .slice none 0 0, .slice (some ⟨w.heap.size + 1 + 1, 0, none⟩) 2 2] 49 (0, 0)) := by rw [← hx]; simp only [heap_alloc_if, World.size_alloc]; (repeat (rw [if_neg (by omega)])); first | rfl | (rw [if_pos trivial]; rfl)
  have hxs : x.heap[w.heap.size + 1 + 1 + 1]? = some (.cells #[.int .i64 4, .int .i64 0, .slice none 0 0, .slice (some ⟨w.heap.size + 1 + 1, 0, none⟩) 2 2] 49 (0, 0)) := by rw [← hx]; simp only [heap_alloc_if, World.size_alloc]; (repeat (rw [if_neg (by omega)])); first | rfl | (rw [if_pos trivial]; rfl)
  have hB : Below w.heap.size w x := by rw [← hx]; exact ⟨rfl, rfl, rfl, by simp; omega, fun q hq => by simp only [heap_alloc_if, World.size_alloc]; repeat (rw [if_neg (by omega)])⟩
  have hxn : x.heap[w.heap.size + 1 + 1]? = some (.cells (intsV [n, m]).toArray 3 (0, 0)) := by rw [← hx]; simp only [heap_alloc_if, World.size_alloc]; (repeat (rw [if_neg (by omega)])); first | rfl | (rw [if_pos trivial]; rfl)
  have hbR : RBox x #[.int .i64 4, .int .i64 0, .slice none 0 0, .slice (some ⟨w.heap.size + 1 + 1, 0, none⟩) 2 2] (⟨4, 0, [], [n, m]⟩ : RActD) := rbox_mk (R := (⟨4, 0, [], [n, m]⟩ : RActD)) (D := []) (by simp [HP1.out, HP2.out, HP3.out, HP4.out, toL_mkS]) (sl_none _) (sl_row hxn rfl (by unfold maxLen; omega)) rfl rfl
  have hbS : RBox x #[.int .i64 4, .int .i64 0, .slice none 0 0, .slice (some ⟨w.heap.size + 1 + 1, 0, none⟩) 2 2] (⟨4, 0, [], [n, m]⟩ : RActD) := rbox_mk (R := (⟨4, 0, [], [n, m]⟩ : RActD)) (D := []) (by simp [HP1.out, HP2.out, HP3.out, HP4.out, toL_mkS]) (sl_none _) (sl_row hxn rfl (by unfold maxLen; omega)) rfl rfl
  have hbA := Hb.out x (H1.out.keep (Cells.of_below hB)) (H2.out.keep (Cells.of_below hB))
  obtain ⟨rs, hrs⟩ : ∃ rs, rs = w.heap.size + 1 + 1 + 1 := ⟨_, rfl⟩
  have HbA := Lib.hid hbA
  rw [← hrs] at hxs ⊢
  have HbR := Lib.hid hbR
  have HbS := Lib.hid hbS
  have HB := Lib.hid hB
  have Hxa := Lib.hid hxa
  have Hxb := Lib.hid hxb
  have Hxs := Lib.hid hxs
  have ra : x.drew.rangeAt w.heap.size 0 [.int .i64 4, .int .i64 ck, .string P1, .string P2, .string P3, .slice A1 L1 c1, .int .i64 n, .int .i64 m, .string P4, .int .i64 att, .int .i64 fk, .int .i64 fn, .slice A2 L2 c2] := rangeAt_of hxa
  have rsh : x.drew.rangeAt rs 0 [.int .i64 4, .int .i64 0, .slice none 0 0, .slice (some ⟨w.heap.size + 1 + 1, 0, none⟩) 2 2] := rangeAt_of hxs
  have hws := HB.out.size
  clear hx hbR hbS hB hxa hxb hxs hrs hbA  hxn
  with_reducible refine g_mixx [(0, 1), (1, 1), (2, 0), (4, 0), (3, 2), (5, 2), (6, 0), (7, 0), (8, 0)] (fun w' => w'.rangeAt w.heap.size 0 [.int .i64 4, .int .i64 ck, .string P1, .string P2, .string P3, .slice A1 L1 c1, .int .i64 n, .int .i64 m, .string P4, .int .i64 att, .int .i64 fk, .int .i64 fn, .slice A2 L2 c2] ∧ w'.rangeAt rs 0 [.int .i64 4, .int .i64 0, .slice none 0 0, .slice (some ⟨w.heap.size + 1 + 1, 0, none⟩) 2 2]) 1 (some 136) rfl (by kernel_rfl) (by kernel_rfl) ?_ ?_
  · exact ⟨ra, rsh⟩
  intro OPS HD
  simp only [mixX, nthO, consX]
  iterate 2 ((with_reducible refine x_any (v := ?_) ?_ ?_); rotate_left; (rintro _; go_simp; first | done | rfl | (constructor <;> rfl)))
  refine x_valg HD (by go_simp) (fun wy hy => run_load_row 49 (.tmp 5) rs 0 (by simp [Act.eval, Act.put]) [.int .i64 4, .int .i64 0, .slice none 0 0, .slice (some ⟨w.heap.size + 1 + 1, 0, none⟩) 2 2] hy.2 Tryd.underlying49 rfl sizeR) ⟨ra, rsh⟩ ?_
  refine x_valg HD (by go_simp) (fun wy hy => run_load_row 28 (.tmp 1) w.heap.size 0 (by simp [Act.eval, Act.put]) [.int .i64 4, .int .i64 ck, .string P1, .string P2, .string P3, .slice A1 L1 c1, .int .i64 n, .int .i64 m, .string P4, .int .i64 att, .int .i64 fk, .int .i64 fn, .slice A2 L2 c2] hy.1 Tryd.underlying28 rfl sizeAct) ⟨ra, rsh⟩ ?_
  with_reducible refine x_one ?_
  refine l_onceg HD (by go_simp) ?_
  refine l_call ?_ ((act_ref x.drew #[.int .i64 4, .int .i64 0, .slice none 0 0, .slice (some ⟨w.heap.size + 1 + 1, 0, none⟩) 2 2] (⟨4, 0, [], [n, m]⟩ : RActD) (HbS.out.keep fun _ _ h => h) (by rw [← HSR.out]; exact line_wf Ha.out HK.out)).mono ?_)
  · go_simp
  rintro e x1 ⟨VA, rfl, hVA, hB1⟩
  refine ⟨_, rfl, ?_⟩
  have hxd : x.drew.heap.size = x.heap.size := rfl
  have ra1 : x1.rangeAt w.heap.size 0 [.int .i64 4, .int .i64 ck, .string P1, .string P2, .string P3, .slice A1 L1 c1, .int .i64 n, .int .i64 m, .string P4, .int .i64 att, .int .i64 fk, .int .i64 fn, .slice A2 L2 c2] := rangeAt_of ((hB1.block _ (lt_of_heap Hxa.out)).trans Hxa.out)
  have rs1 : x1.rangeAt rs 0 [.int .i64 4, .int .i64 0, .slice none 0 0, .slice (some ⟨w.heap.size + 1 + 1, 0, none⟩) 2 2] := rangeAt_of ((hB1.block _ (lt_of_heap Hxs.out)).trans Hxs.out)
  refine x_keep ⟨ra1, rs1⟩ ?_
  with_reducible refine x_one ?_
  refine l_onceg HD (by go_simp) ?_
  have hbA1 := HbA.out.keep (w' := x1) (fun p v h => Cells.of_below hB1 p v h)
  refine l_call ?_ ((hVA.same hbA1).mono ?_)
  · go_simp
  rintro e x2 ⟨rfl, hB2⟩
  refine ⟨_, rfl, ?_⟩
  obtain ⟨sm, hsm⟩ : ∃ sm, sm = decide (actR (⟨4, 0, [], [n, m]⟩ : RActD) = (⟨4, ck, path, ver, name, data, n, m, url, att, fk, fn, fdata⟩ : ActD)) := ⟨_, rfl⟩
  have HBad : Hid ((!sm) = badA (⟨4, ck, path, ver, name, data, n, m, url, att, fk, fn, fdata⟩ : ActD)) := Lib.hid (by
    unfold badA
    rw [decide_eq_true HK.out, Bool.true_and, HSR.out, ← hsm])
  have hB12 : Below x.heap.size x x2 := (show Below x.heap.size x x1 from ⟨hB1.os, hB1.tape, hB1.output, hB1.size, hB1.block⟩).trans (hB2.mono hB1.size)
  have ra2 : x2.rangeAt w.heap.size 0 [.int .i64 4, .int .i64 ck, .string P1, .string P2, .string P3, .slice A1 L1 c1, .int .i64 n, .int .i64 m, .string P4, .int .i64 att, .int .i64 fk, .int .i64 fn, .slice A2 L2 c2] := rangeAt_of ((hB12.block _ (lt_of_heap Hxa.out)).trans Hxa.out)
  have rs2 : x2.rangeAt rs 0 [.int .i64 4, .int .i64 0, .slice none 0 0, .slice (some ⟨w.heap.size + 1 + 1, 0, none⟩) 2 2] := rangeAt_of ((hB12.block _ (lt_of_heap Hxs.out)).trans Hxs.out)
  refine x_keep ⟨ra2, rs2⟩ ?_
  iterate 1 ((with_reducible refine x_valg (v := ?_) HD ?_ ?_ ?_ ?_); rotate_left; go_simp; (rintro _ h; go_simp; first | done | rfl | (constructor <;> rfl)); exact ⟨ra2, rs2⟩)
  iterate 2 ((with_reducible refine x_val (v := ?_) ?_ ?_ ?_); rotate_left; (rintro _ h; go_simp; first | done | rfl | (constructor <;> rfl)); exact ⟨ra2, rs2⟩)
  with_reducible refine x_end ?_
  simp only [Act.put, List.setIfInBounds_toArray, List.set_cons_zero, List.set_cons_succ]
  obtain ⟨bd, hbd⟩ : ∃ bd, bd = !sm := ⟨_, rfl⟩
  rw [← hsm, ← hbd]
  have HBd : Hid (badA (⟨4, ck, path, ver, name, data, n, m, url, att, fk, fn, fdata⟩ : ActD) = bd) := Lib.hid (by rw [hbd, HBad.out])
  obtain ⟨q0, q1, q2, q3⟩ := row4 ((hB12.block _ (lt_of_heap Hxb.out)).trans Hxb.out)
  have hbR2 := HbR.out.keep (Cells.of_below hB12)
  have HB2 := Lib.hid (HB.out.trans (hB12.mono HB.out.size))
  have HbR2 := Lib.hid hbR2
  clear ra rsh hB12 hbR2 HD hsm hbd ra1 rs1 ra2 rs2 hxd hVA hbA1 hB1 hB2
  go_wp2_with fail
  refine (rformat_ref x2 _ (⟨4, 0, [], [n, m]⟩ : RActD) bd (Hw.out.below HB2.out) HbR2.out (by rw [← HLR.out]; exact line_small Ha.out) (by rw [← HLR.out]; exact line_nums Ha.out) (by rw [← HLR.out]; exact line_cnt _)).mono ?_
  rintro e x3 ⟨rfl, hB3⟩
  have HFin : Hid (LnPost w (⟨4, ck, path, ver, name, data, n, m, url, att, fk, fn, fdata⟩ : ActD) (.returned (.tuple #[.string (mkS (rformat (⟨4, 0, [], [n, m]⟩ : RActD) bd).1), .int .i64 (rformat (⟨4, 0, [], [n, m]⟩ : RActD) bd).2])) x3) := Lib.hid (by
    have := Hl.out
    rw [HLR.out, HBd.out] at this
    unfold LnPost
    rw [← this]
    exact ⟨rfl, HB2.out.trans (hB3.mono HB2.out.size)⟩)
  generalize rformat (⟨4, 0, [], [n, m]⟩ : RActD) bd = pr at *
  obtain ⟨p1, p2⟩ := pr
  simp only at HFin ⊢
  obtain ⟨QF, hQF⟩ : ∃ QF, QF = mkS p1 := ⟨_, rfl⟩
  rw [← hQF] at HFin ⊢
  clear hB3 hQF
  go_wp2_with fail
  go_ret2
  exact HFin.out
set_option maxRecDepth 100000 in
set_option maxHeartbeats 8000000 in
theorem line_k5 (w : World) (a : ActD) (A1 A2 : Option Addr) (c1 c2 : Nat) (hw : Lw w) (ha : ActOk a) (h1 : Bs w A1 c1 a.data) (h2 : Bs w A2 c2 a.fdata) (hk : a.kind = 5) :
    Calls Tryd.prog 21 #[.agg (actV a (.slice A1 a.data.length c1) (.slice A2 a.fdata.length c2)).toArray] w (LnPost w a) := by
  have Hw := Lib.hid hw
  have Ha := Lib.hid ha
  have H1 := Lib.hid h1
  have H2 := Lib.hid h2
  have Hl := Lib.hid (rformat_eq a)
  have Hb : Hid (∀ W : World, Bs W A1 c1 a.data → Bs W A2 c2 a.fdata → ActBox W (actV a (.slice A1 a.data.length c1) (.slice A2 a.fdata.length c2)).toArray a) := Lib.hid fun W k1 k2 => ⟨A1, c1, A2, c2, rfl, k1, k2⟩
  clear hw ha h1 h2
  obtain ⟨kind, ck, path, ver, name, data, n, m, url, att, fk, fn, fdata⟩ := a
  simp only at hk
  subst hk
  have HLR : Hid (lineR (⟨5, ck, path, ver, name, data, n, m, url, att, fk, fn, fdata⟩ : ActD) = (⟨5, 0, [], [n]⟩ : RActD)) := Lib.hid (by simp [lineR])
  have HSR : Hid (shortR (lineR (⟨5, ck, path, ver, name, data, n, m, url, att, fk, fn, fdata⟩ : ActD)) = (⟨5, 0, [], [n]⟩ : RActD)) := Lib.hid (by simp [lineR, shortR])
  have HK : Hid (knownR (lineR (⟨5, ck, path, ver, name, data, n, m, url, att, fk, fn, fdata⟩ : ActD))) := Lib.hid (by simp [lineR, knownR]; try omega)
  simp only [actV] at Hb ⊢
  obtain ⟨P1, hP1⟩ : ∃ x, x = mkS path := ⟨_, rfl⟩
  obtain ⟨P2, hP2⟩ : ∃ x, x = mkS ver := ⟨_, rfl⟩
  obtain ⟨P3, hP3⟩ : ∃ x, x = mkS name := ⟨_, rfl⟩
  obtain ⟨P4, hP4⟩ : ∃ x, x = mkS url := ⟨_, rfl⟩
  rw [← hP1, ← hP2, ← hP3, ← hP4] at Hb ⊢
  have HP1 := Lib.hid hP1
  have HP2 := Lib.hid hP2
  have HP3 := Lib.hid hP3
  have HP4 := Lib.hid hP4
  obtain ⟨L1, hL1⟩ : ∃ x, x = data.length := ⟨_, rfl⟩
  obtain ⟨L2, hL2⟩ : ∃ x, x = fdata.length := ⟨_, rfl⟩
  rw [← hL1, ← hL2] at Hb ⊢
  clear hP1 hP2 hP3 hP4 hL1 hL2
  go_enter Tryd.func21, Tryd.ntmps21
  go_wp2_with fail
  generalize hx : World.alloc (World.alloc (World.alloc (World.alloc w _) _) _) _ = x
  have hxa : x.heap[w.heap.size]? = some (.cells #[.int .i64 5, .int .i64 ck, .string P1, .string P2, .string P3, .slice A1 L1 c1, .int .i64 n, .int .i64 m, .string P4, .int .i64 att, .int .i64 fk, .int .i64 fn, .slice A2 L2 c2] 28 (0, 0)) := by rw [← hx]; simp only [heap_alloc_if, World.size_alloc]; (repeat (rw [if_neg (by omega)])); first | rfl | (rw [if_pos trivial]; rfl)
  have hxb : x.heap[w.heap.size + 1]? = some (.cells #[.int .i64 5, .int .i64 0, .slice none 0 0, .slice (some ⟨w.heap.size + 1 + 1, 0, none⟩) 1 1] 49 (0, 0)) := by rw [← hx]; simp only [heap_alloc_if, World.size_alloc]; (repeat (rw [if_neg (by omega)])); first | rfl | (rw [if_pos trivial]; rfl)
  have hxs : x.heap[w.heap.size + 1 + 1 + 1]? = some (.cells #[.int .i64 5, .int .i64 0, .slice none 0 0, .slice (some ⟨w.heap.size + 1 + 1, 0, none⟩) 1 1] 49 (0, 0)) := by rw [← hx]; simp only [heap_alloc_if, World.size_alloc]; (repeat (rw [if_neg (by omega)])); first | rfl | (rw [if_pos trivial]; rfl)
  have hB : Below w.heap.size w x := by rw [← hx]; exact ⟨rfl, rfl, rfl, by simp; omega, fun q hq => by simp only [heap_alloc_if, World.size_alloc]; repeat (rw [if_neg (by omega)])⟩
  have hxn : x.heap[w.heap.size + 1 + 1]? = some (.cells (intsV [n]).toArray 3 (0, 0)) := by rw [← hx]; simp only [heap_alloc_if, World.size_alloc]; (repeat (rw [if_neg (by omega)])); first | rfl | (rw [if_pos trivial]; rfl)
  have hbR : RBox x #[.int .i64 5, .int .i64 0, .slice none 0 0, .slice (some ⟨w.heap.size + 1 + 1, 0, none⟩) 1 1] (⟨5, 0, [], [n]⟩ : RActD) := rbox_mk (R := (⟨5, 0, [], [n]⟩ : RActD)) (D := []) (by simp [HP1.out, HP2.out, HP3.out, HP4.out, toL_mkS]) (sl_none _) (sl_row hxn rfl (by unfold maxLen; omega)) rfl rfl
  have hbS : RBox x #[.int .i64 5, .int .i64 0, .slice none 0 0, .slice (some ⟨w.heap.size + 1 + 1, 0, none⟩) 1 1] (⟨5, 0, [], [n]⟩ : RActD) := rbox_mk (R := (⟨5, 0, [], [n]⟩ : RActD)) (D := []) (by simp [HP1.out, HP2.out, HP3.out, HP4.out, toL_mkS]) (sl_none _) (sl_row hxn rfl (by unfold maxLen; omega)) rfl rfl
  have hbA := Hb.out x (H1.out.keep (Cells.of_below hB)) (H2.out.keep (Cells.of_below hB))
  obtain ⟨rs, hrs⟩ : ∃ rs, rs = w.heap.size + 1 + 1 + 1 := ⟨_, rfl⟩
  have HbA := Lib.hid hbA
  rw [← hrs] at hxs ⊢
  have HbR := Lib.hid hbR
  have HbS := Lib.hid hbS
  have HB := Lib.hid hB
  have Hxa := Lib.hid hxa
  have Hxb := Lib.hid hxb
  have Hxs := Lib.hid hxs
  have ra : x.drew.rangeAt w.heap.size 0 [.int .i64 5, .int .i64 ck, .string P1, .string P2, .string P3, .slice A1 L1 c1, .int .i64 n, .int .i64 m, .string P4, .int .i64 att, .int .i64 fk, .int .i64 fn, .slice A2 L2 c2] := rangeAt_of hxa
  have rsh : x.drew.rangeAt rs 0 [.int .i64 5, .int .i64 0, .slice none 0 0, .slice (some ⟨w.heap.size + 1 + 1, 0, none⟩) 1 1] := rangeAt_of hxs
  have hws := HB.out.size
  clear hx hbR hbS hB hxa hxb hxs hrs hbA  hxn
  with_reducible refine g_mixx [(0, 1), (1, 1), (2, 0), (4, 0), (3, 2), (5, 2), (6, 0), (7, 0), (8, 0)] (fun w' => w'.rangeAt w.heap.size 0 [.int .i64 5, .int .i64 ck, .string P1, .string P2, .string P3, .slice A1 L1 c1, .int .i64 n, .int .i64 m, .string P4, .int .i64 att, .int .i64 fk, .int .i64 fn, .slice A2 L2 c2] ∧ w'.rangeAt rs 0 [.int .i64 5, .int .i64 0, .slice none 0 0, .slice (some ⟨w.heap.size + 1 + 1, 0, none⟩) 1 1]) 1 (some 136) rfl (by kernel_rfl) (by kernel_rfl) ?_ ?_
  · exact ⟨ra, rsh⟩
  intro OPS HD
  simp only [mixX, nthO, consX]
  iterate 2 ((with_reducible refine x_any (v := ?_) ?_ ?_); rotate_left; (rintro _; go_simp; first | done | rfl | (constructor <;> rfl)))
  refine x_valg HD (by go_simp) (fun wy hy => run_load_row 49 (.tmp 5) rs 0 (by simp [Act.eval, Act.put]) [.int .i64 5, .int .i64 0, .slice none 0 0, .slice (some ⟨w.heap.size + 1 + 1, 0, none⟩) 1 1] hy.2 Tryd.underlying49 rfl sizeR) ⟨ra, rsh⟩ ?_
  refine x_valg HD (by go_simp) (fun wy hy => run_load_row 28 (.tmp 1) w.heap.size 0 (by simp [Act.eval, Act.put]) [.int .i64 5, .int .i64 ck, .string P1, .string P2, .string P3, .slice A1 L1 c1, .int .i64 n, .int .i64 m, .string P4, .int .i64 att, .int .i64 fk, .int .i64 fn, .slice A2 L2 c2] hy.1 Tryd.underlying28 rfl sizeAct) ⟨ra, rsh⟩ ?_
  with_reducible refine x_one ?_
  refine l_onceg HD (by go_simp) ?_
  refine l_call ?_ ((act_ref x.drew #[.int .i64 5, .int .i64 0, .slice none 0 0, .slice (some ⟨w.heap.size + 1 + 1, 0, none⟩) 1 1] (⟨5, 0, [], [n]⟩ : RActD) (HbS.out.keep fun _ _ h => h) (by rw [← HSR.out]; exact line_wf Ha.out HK.out)).mono ?_)
  · go_simp
  rintro e x1 ⟨VA, rfl, hVA, hB1⟩
  refine ⟨_, rfl, ?_⟩
  have hxd : x.drew.heap.size = x.heap.size := rfl
  have ra1 : x1.rangeAt w.heap.size 0 [.int .i64 5, .int .i64 ck, .string P1, .string P2, .string P3, .slice A1 L1 c1, .int .i64 n, .int .i64 m, .string P4, .int .i64 att, .int .i64 fk, .int .i64 fn, .slice A2 L2 c2] := rangeAt_of ((hB1.block _ (lt_of_heap Hxa.out)).trans Hxa.out)
  have rs1 : x1.rangeAt rs 0 [.int .i64 5, .int .i64 0, .slice none 0 0, .slice (some ⟨w.heap.size + 1 + 1, 0, none⟩) 1 1] := rangeAt_of ((hB1.block _ (lt_of_heap Hxs.out)).trans Hxs.out)
  refine x_keep ⟨ra1, rs1⟩ ?_
  with_reducible refine x_one ?_
  refine l_onceg HD (by go_simp) ?_
  have hbA1 := HbA.out.keep (w' := x1) (fun p v h => Cells.of_below hB1 p v h)
  refine l_call ?_ ((hVA.same hbA1).mono ?_)
  · go_simp
  rintro e x2 ⟨rfl, hB2⟩
  refine ⟨_, rfl, ?_⟩
  obtain ⟨sm, hsm⟩ : ∃ sm, sm = decide (actR (⟨5, 0, [], [n]⟩ : RActD) = (⟨5, ck, path, ver, name, data, n, m, url, att, fk, fn, fdata⟩ : ActD)) := ⟨_, rfl⟩
  have HBad : Hid ((!sm) = badA (⟨5, ck, path, ver, name, data, n, m, url, att, fk, fn, fdata⟩ : ActD)) := Lib.hid (by
    unfold badA
    rw [decide_eq_true HK.out, Bool.true_and, HSR.out, ← hsm])
  have hB12 : Below x.heap.size x x2 := (show Below x.heap.size x x1 from ⟨hB1.os, hB1.tape, hB1.output, hB1.size, hB1.block⟩).trans (hB2.mono hB1.size)
  have ra2 : x2.rangeAt w.heap.size 0 [.int .i64 5, .int .i64 ck, .string P1, .string P2, .string P3, .slice A1 L1 c1, .int .i64 n, .int .i64 m, .string P4, .int .i64 att, .int .i64 fk, .int .i64 fn, .slice A2 L2 c2] := rangeAt_of ((hB12.block _ (lt_of_heap Hxa.out)).trans Hxa.out)
  have rs2 : x2.rangeAt rs 0 [.int .i64 5, .int .i64 0, .slice none 0 0, .slice (some ⟨w.heap.size + 1 + 1, 0, none⟩) 1 1] := rangeAt_of ((hB12.block _ (lt_of_heap Hxs.out)).trans Hxs.out)
  refine x_keep ⟨ra2, rs2⟩ ?_
  iterate 1 ((with_reducible refine x_valg (v := ?_) HD ?_ ?_ ?_ ?_); rotate_left; go_simp; (rintro _ h; go_simp; first | done | rfl | (constructor <;> rfl)); exact ⟨ra2, rs2⟩)
  iterate 2 ((with_reducible refine x_val (v := ?_) ?_ ?_ ?_); rotate_left; (rintro _ h; go_simp; first | done | rfl | (constructor <;> rfl)); exact ⟨ra2, rs2⟩)
  with_reducible refine x_end ?_
  simp only [Act.put, List.setIfInBounds_toArray, List.set_cons_zero, List.set_cons_succ]
  obtain ⟨bd, hbd⟩ : ∃ bd, bd = !sm := ⟨_, rfl⟩
  rw [← hsm, ← hbd]
  have HBd : Hid (badA (⟨5, ck, path, ver, name, data, n, m, url, att, fk, fn, fdata⟩ : ActD) = bd) := Lib.hid (by rw [hbd, HBad.out])
  obtain ⟨q0, q1, q2, q3⟩ := row4 ((hB12.block _ (lt_of_heap Hxb.out)).trans Hxb.out)
  have hbR2 := HbR.out.keep (Cells.of_below hB12)
  have HB2 := Lib.hid (HB.out.trans (hB12.mono HB.out.size))
  have HbR2 := Lib.hid hbR2
  clear ra rsh hB12 hbR2 HD hsm hbd ra1 rs1 ra2 rs2 hxd hVA hbA1 hB1 hB2
  go_wp2_with fail
  refine (rformat_ref x2 _ (⟨5, 0, [], [n]⟩ : RActD) bd (Hw.out.below HB2.out) HbR2.out (by rw [← HLR.out]; exact line_small Ha.out) (by rw [← HLR.out]; exact line_nums Ha.out) (by rw [← HLR.out]; exact line_cnt _)).mono ?_
  rintro e x3 ⟨rfl, hB3⟩
  have HFin : Hid (LnPost w (⟨5, ck, path, ver, name, data, n, m, url, att, fk, fn, fdata⟩ : ActD) (.returned (.tuple #[.string (mkS (rformat (⟨5, 0, [], [n]⟩ : RActD) bd).1), .int .i64 (rformat (⟨5, 0, [], [n]⟩ : RActD) bd).2])) x3) := Lib.hid (by
    have := Hl.out
    rw [HLR.out, HBd.out] at this
    unfold LnPost
    rw [← this]
    exact ⟨rfl, HB2.out.trans (hB3.mono HB2.out.size)⟩)
  generalize rformat (⟨5, 0, [], [n]⟩ : RActD) bd = pr at *
  obtain ⟨p1, p2⟩ := pr
  simp only at HFin ⊢
  obtain ⟨QF, hQF⟩ : ∃ QF, QF = mkS p1 := ⟨_, rfl⟩
  rw [← hQF] at HFin ⊢
  clear hB3 hQF
  go_wp2_with fail
  go_ret2
  exact HFin.out
set_option maxRecDepth 100000 in
set_option maxHeartbeats 8000000 in
theorem line_k10 (w : World) (a : ActD) (A1 A2 : Option Addr) (c1 c2 : Nat) (hw : Lw w) (ha : ActOk a) (h1 : Bs w A1 c1 a.data) (h2 : Bs w A2 c2 a.fdata) (hk : a.kind = 10) :
    Calls Tryd.prog 21 #[.agg (actV a (.slice A1 a.data.length c1) (.slice A2 a.fdata.length c2)).toArray] w (LnPost w a) := by
  have Hw := Lib.hid hw
  have Ha := Lib.hid ha
  have H1 := Lib.hid h1
  have H2 := Lib.hid h2
  have Hl := Lib.hid (rformat_eq a)
  have Hb : Hid (∀ W : World, Bs W A1 c1 a.data → Bs W A2 c2 a.fdata → ActBox W (actV a (.slice A1 a.data.length c1) (.slice A2 a.fdata.length c2)).toArray a) := Lib.hid fun W k1 k2 => ⟨A1, c1, A2, c2, rfl, k1, k2⟩
  clear hw ha h1 h2
  obtain ⟨kind, ck, path, ver, name, data, n, m, url, att, fk, fn, fdata⟩ := a
  simp only at hk
  subst hk
  have HLR : Hid (lineR (⟨10, ck, path, ver, name, data, n, m, url, att, fk, fn, fdata⟩ : ActD) = (⟨10, 0, [], [n]⟩ : RActD)) := Lib.hid (by simp [lineR])
  have HSR : Hid (shortR (lineR (⟨10, ck, path, ver, name, data, n, m, url, att, fk, fn, fdata⟩ : ActD)) = (⟨10, 0, [], [n]⟩ : RActD)) := Lib.hid (by simp [lineR, shortR])
  have HK : Hid (knownR (lineR (⟨10, ck, path, ver, name, data, n, m, url, att, fk, fn, fdata⟩ : ActD))) := Lib.hid (by simp [lineR, knownR]; try omega)
  simp only [actV] at Hb ⊢
  obtain ⟨P1, hP1⟩ : ∃ x, x = mkS path := ⟨_, rfl⟩
  obtain ⟨P2, hP2⟩ : ∃ x, x = mkS ver := ⟨_, rfl⟩
  obtain ⟨P3, hP3⟩ : ∃ x, x = mkS name := ⟨_, rfl⟩
  obtain ⟨P4, hP4⟩ : ∃ x, x = mkS url := ⟨_, rfl⟩
  rw [← hP1, ← hP2, ← hP3, ← hP4] at Hb ⊢
  have HP1 := Lib.hid hP1
  have HP2 := Lib.hid hP2
  have HP3 := Lib.hid hP3
  have HP4 := Lib.hid hP4
  obtain ⟨L1, hL1⟩ : ∃ x, x = data.length := ⟨_, rfl⟩
  obtain ⟨L2, hL2⟩ : ∃ x, x = fdata.length := ⟨_, rfl⟩
  rw [← hL1, ← hL2] at Hb ⊢
  clear hP1 hP2 hP3 hP4 hL1 hL2
  go_enter Tryd.func21, Tryd.ntmps21
  go_wp2_with fail
  generalize hx : World.alloc (World.alloc (World.alloc (World.alloc w _) _) _) _ = x
  have hxa : x.heap[w.heap.size]? = some (.cells #[.int .i64 10, .int .i64 ck, .string P1, .string P2, .string P3, .slice A1 L1 c1, .int .i64 n, .int .i64 m, .string P4, .int .i64 att, .int .i64 fk, .int .i64 fn, .slice A2 L2 c2] 28 (0, 0)) := by rw [← hx]; simp only [heap_alloc_if, World.size_alloc]; (repeat (rw [if_neg (by omega)])); first | rfl | (rw [if_pos trivial]; rfl)
  have hxb : x.heap[w.heap.size + 1]? = some (.cells #[.int .i64 10, .int .i64 0, .slice none 0 0, .slice (some ⟨w.heap.size + 1 + 1, 0, none⟩) 1 1] 49 (0, 0)) := by rw [← hx]; simp only [heap_alloc_if, World.size_alloc]; (repeat (rw [if_neg (by omega)])); first | rfl | (rw [if_pos trivial]; rfl)
  have hxs : x.heap[w.heap.size + 1 + 1 + 1]? = some (.cells #[.int .i64 10, .int .i64 0, .slice none 0 0, .slice (some ⟨w.heap.size + 1 + 1, 0, none⟩) 1 1] 49 (0, 0)) := by rw [← hx]; simp only [heap_alloc_if, World.size_alloc]; (repeat (rw [if_neg (by omega)])); first | rfl | (rw [if_pos trivial]; rfl)
  have hB : Below w.heap.size w x := by rw [← hx]; exact ⟨rfl, rfl, rfl, by simp; omega, fun q hq => by simp only [heap_alloc_if, World.size_alloc]; repeat (rw [if_neg (by omega)])⟩
  have hxn : x.heap[w.heap.size + 1 + 1]? = some (.cells (intsV [n]).toArray 3 (0, 0)) := by rw [← hx]; simp only [heap_alloc_if, World.size_alloc]; (repeat (rw [if_neg (by omega)])); first | rfl | (rw [if_pos trivial]; rfl)
  have hbR : RBox x #[.int .i64 10, .int .i64 0, .slice none 0 0, .slice (some ⟨w.heap.size + 1 + 1, 0, none⟩) 1 1] (⟨10, 0, [], [n]⟩ : RActD) := rbox_mk (R := (⟨10, 0, [], [n]⟩ : RActD)) (D := []) (by simp [HP1.out, HP2.out, HP3.out, HP4.out, toL_mkS]) (sl_none _) (sl_row hxn rfl (by unfold maxLen; omega)) rfl rfl
  have hbS : RBox x #[.int .i64 10, .int .i64 0, .slice none 0 0, .slice (some ⟨w.heap.size + 1 + 1, 0, none⟩) 1 1] (⟨10, 0, [], [n]⟩ : RActD) := rbox_mk (R := (⟨10, 0, [], [n]⟩ : RActD)) (D := []) (by simp [HP1.out, HP2.out, HP3.out, HP4.out, toL_mkS]) (sl_none _) (sl_row hxn rfl (by unfold maxLen; omega)) rfl rfl
  have hbA := Hb.out x (H1.out.keep (Cells.of_below hB)) (H2.out.keep (Cells.of_below hB))
  obtain ⟨rs, hrs⟩ : ∃ rs, rs = w.heap.size + 1 + 1 + 1 := ⟨_, rfl⟩
  have HbA := Lib.hid hbA
  rw [← hrs] at hxs ⊢
  have HbR := Lib.hid hbR
  have HbS := Lib.hid hbS
  have HB := Lib.hid hB
  have Hxa := Lib.hid hxa
  have Hxb := Lib.hid hxb
  have Hxs := Lib.hid hxs
  have ra : x.drew.rangeAt w.heap.size 0 [.int .i64 10, .int .i64 ck, .string P1, .string P2, .string P3, .slice A1 L1 c1, .int .i64 n, .int .i64 m, .string P4, .int .i64 att, .int .i64 fk, .int .i64 fn, .slice A2 L2 c2] := rangeAt_of hxa
  have rsh : x.drew.rangeAt rs 0 [.int .i64 10, .int .i64 0, .slice none 0 0, .slice (some ⟨w.heap.size + 1 + 1, 0, none⟩) 1 1] := rangeAt_of hxs
  have hws := HB.out.size
  clear hx hbR hbS hB hxa hxb hxs hrs hbA  hxn
  with_reducible refine g_mixx [(0, 1), (1, 1), (2, 0), (4, 0), (3, 2), (5, 2), (6, 0), (7, 0), (8, 0)] (fun w' => w'.rangeAt w.heap.size 0 [.int .i64 10, .int .i64 ck, .string P1, .string P2, .string P3, .slice A1 L1 c1, .int .i64 n, .int .i64 m, .string P4, .int .i64 att, .int .i64 fk, .int .i64 fn, .slice A2 L2 c2] ∧ w'.rangeAt rs 0 [.int .i64 10, .int .i64 0, .slice none 0 0, .slice (some ⟨w.heap.size + 1 + 1, 0, none⟩) 1 1]) 1 (some 136) rfl (by kernel_rfl) (by kernel_rfl) ?_ ?_
  · exact ⟨ra, rsh⟩
  intro OPS HD
  simp only [mixX, nthO, consX]
  iterate 2 ((with_reducible refine x_any (v := ?_) ?_ ?_); rotate_left; (rintro _; go_simp; first | done | rfl | (constructor <;> rfl)))
  refine x_valg HD (by go_simp) (fun wy hy => run_load_row 49 (.tmp 5) rs 0 (by simp [Act.eval, Act.put]) [.int .i64 10, .int .i64 0, .slice none 0 0, .slice (some ⟨w.heap.size + 1 + 1, 0, none⟩) 1 1] hy.2 Tryd.underlying49 rfl sizeR) ⟨ra, rsh⟩ ?_
  refine x_valg HD (by go_simp) (fun wy hy => run_load_row 28 (.tmp 1) w.heap.size 0 (by simp [Act.eval, Act.put]) [.int .i64 10, .int .i64 ck, .string P1, .string P2, .string P3, .slice A1 L1 c1, .int .i64 n, .int .i64 m, .string P4, .int .i64 att, .int .i64 fk, .int .i64 fn, .slice A2 L2 c2] hy.1 Tryd.underlying28 rfl sizeAct) ⟨ra, rsh⟩ ?_
  with_reducible refine x_one ?_
  refine l_onceg HD (by go_simp) ?_
  refine l_call ?_ ((act_ref x.drew #[.int .i64 10, .int .i64 0, .slice none 0 0, .slice (some ⟨w.heap.size + 1 + 1, 0, none⟩) 1 1] (⟨10, 0, [], [n]⟩ : RActD) (HbS.out.keep fun _ _ h => h) (by rw [← HSR.out]; exact line_wf Ha.out HK.out)).mono ?_)
  · go_simp
  rintro e x1 ⟨VA, rfl, hVA, hB1⟩
  refine ⟨_, rfl, ?_⟩
  have hxd : x.drew.heap.size = x.heap.size := rfl
  have ra1 : x1.rangeAt w.heap.size 0 [.int .i64 10, .int .i64 ck, .string P1, .string P2, .string P3, .slice A1 L1 c1, .int .i64 n, .int .i64 m, .string P4, .int .i64 att, .int .i64 fk, .int .i64 fn, .slice A2 L2 c2] := rangeAt_of ((hB1.block _ (lt_of_heap Hxa.out)).trans Hxa.out)
  have rs1 : x1.rangeAt rs 0 [.int .i64 10, .int .i64 0, .slice none 0 0, .slice (some ⟨w.heap.size + 1 + 1, 0, none⟩) 1 1] := rangeAt_of ((hB1.block _ (lt_of_heap Hxs.out)).trans Hxs.out)
  refine x_keep ⟨ra1, rs1⟩ ?_
  with_reducible refine x_one ?_
  refine l_onceg HD (by go_simp) ?_
  have hbA1 := HbA.out.keep (w' := x1) (fun p v h => Cells.of_below hB1 p v h)
  refine l_call ?_ ((hVA.same hbA1).mono ?_)
  · go_simp
  rintro e x2 ⟨rfl, hB2⟩
  refine ⟨_, rfl, ?_⟩
  obtain ⟨sm, hsm⟩ : ∃ sm, sm = decide (actR (⟨10, 0, [], [n]⟩ : RActD) = (⟨10, ck, path, ver, name, data, n, m, url, att, fk, fn, fdata⟩ : ActD)) := ⟨_, rfl⟩
  have HBad : Hid ((!sm) = badA (⟨10, ck, path, ver, name, data, n, m, url, att, fk, fn, fdata⟩ : ActD)) := Lib.hid (by
    unfold badA
    rw [decide_eq_true HK.out, Bool.true_and, HSR.out, ← hsm])
  have hB12 : Below x.heap.size x x2 := (show Below x.heap.size x x1 from ⟨hB1.os, hB1.tape, hB1.output, hB1.size, hB1.block⟩).trans (hB2.mono hB1.size)
  have ra2 : x2.rangeAt w.heap.size 0 [.int .i64 10, .int .i64 ck, .string P1, .string P2, .string P3, .slice A1 L1 c1, .int .i64 n, .int .i64 m, .string P4, .int .i64 att, .int .i64 fk, .int .i64 fn, .slice A2 L2 c2] := rangeAt_of ((hB12.block _ (lt_of_heap Hxa.out)).trans Hxa.out)
  have rs2 : x2.rangeAt rs 0 [.int .i64 10, .int .i64 0, .slice none 0 0, .slice (some ⟨w.heap.size + 1 + 1, 0, none⟩) 1 1] := rangeAt_of ((hB12.block _ (lt_of_heap Hxs.out)).trans Hxs.out)
  refine x_keep ⟨ra2, rs2⟩ ?_
  iterate 1 ((with_reducible refine x_valg (v := ?_) HD ?_ ?_ ?_ ?_); rotate_left; go_simp; (rintro _ h; go_simp; first | done | rfl | (constructor <;> rfl)); exact ⟨ra2, rs2⟩)
  iterate 2 ((with_reducible refine x_val (v := ?_) ?_ ?_ ?_); rotate_left; (rintro _ h; go_simp; first | done | rfl | (constructor <;> rfl)); exact ⟨ra2, rs2⟩)
  with_reducible refine x_end ?_
  simp only [Act.put, List.setIfInBounds_toArray, List.set_cons_zero, List.set_cons_succ]
  obtain ⟨bd, hbd⟩ : ∃ bd, bd = !sm := ⟨_, rfl⟩
  rw [← hsm, ← hbd]
  have HBd : Hid (badA (⟨10, ck, path, ver, name, data, n, m, url, att, fk, fn, fdata⟩ : ActD) = bd) := Lib.hid (by rw [hbd, HBad.out])
  obtain ⟨q0, q1, q2, q3⟩ := row4 ((hB12.block _ (lt_of_heap Hxb.out)).trans Hxb.out)
  have hbR2 := HbR.out.keep (Cells.of_below hB12)
  have HB2 := Lib.hid (HB.out.trans (hB12.mono HB.out.size))
  have HbR2 := Lib.hid hbR2
  clear ra rsh hB12 hbR2 HD hsm hbd ra1 rs1 ra2 rs2 hxd hVA hbA1 hB1 hB2
  go_wp2_with fail
  refine (rformat_ref x2 _ (⟨10, 0, [], [n]⟩ : RActD) bd (Hw.out.below HB2.out) HbR2.out (by rw [← HLR.out]; exact line_small Ha.out) (by rw [← HLR.out]; exact line_nums Ha.out) (by rw [← HLR.out]; exact line_cnt _)).mono ?_
  rintro e x3 ⟨rfl, hB3⟩
  have HFin : Hid (LnPost w (⟨10, ck, path, ver, name, data, n, m, url, att, fk, fn, fdata⟩ : ActD) (.returned (.tuple #[.string (mkS (rformat (⟨10, 0, [], [n]⟩ : RActD) bd).1), .int .i64 (rformat (⟨10, 0, [], [n]⟩ : RActD) bd).2])) x3) := Lib.hid (by
    have := Hl.out
    rw [HLR.out, HBd.out] at this
    unfold LnPost
    rw [← this]
    exact ⟨rfl, HB2.out.trans (hB3.mono HB2.out.size)⟩)
  generalize rformat (⟨10, 0, [], [n]⟩ : RActD) bd = pr at *
  obtain ⟨p1, p2⟩ := pr
  simp only at HFin ⊢
  obtain ⟨QF, hQF⟩ : ∃ QF, QF = mkS p1 := ⟨_, rfl⟩
  rw [← hQF] at HFin ⊢
  clear hB3 hQF
  go_wp2_with fail
  go_ret2
  exact HFin.out
set_option maxRecDepth 100000 in
set_option maxHeartbeats 8000000 in
theorem line_k11 (w : World) (a : ActD) (A1 A2 : Option Addr) (c1 c2 : Nat) (hw : Lw w) (ha : ActOk a) (h1 : Bs w A1 c1 a.data) (h2 : Bs w A2 c2 a.fdata) (hk : a.kind = 11) :
    Calls Tryd.prog 21 #[.agg (actV a (.slice A1 a.data.length c1) (.slice A2 a.fdata.length c2)).toArray] w (LnPost w a) := by
  have Hw := Lib.hid hw
  have Ha := Lib.hid ha
  have H1 := Lib.hid h1
  have H2 := Lib.hid h2
  have Hl := Lib.hid (rformat_eq a)
  have Hb : Hid (∀ W : World, Bs W A1 c1 a.data → Bs W A2 c2 a.fdata → ActBox W (actV a (.slice A1 a.data.length c1) (.slice A2 a.fdata.length c2)).toArray a) := Lib.hid fun W k1 k2 => ⟨A1, c1, A2, c2, rfl, k1, k2⟩
  clear hw ha h1 h2
  obtain ⟨kind, ck, path, ver, name, data, n, m, url, att, fk, fn, fdata⟩ := a
  simp only at hk
  subst hk
  have HLR : Hid (lineR (⟨11, ck, path, ver, name, data, n, m, url, att, fk, fn, fdata⟩ : ActD) = (⟨11, 0, [], [n]⟩ : RActD)) := Lib.hid (by simp [lineR])
  have HSR : Hid (shortR (lineR (⟨11, ck, path, ver, name, data, n, m, url, att, fk, fn, fdata⟩ : ActD)) = (⟨11, 0, [], [n]⟩ : RActD)) := Lib.hid (by simp [lineR, shortR])
  have HK : Hid (knownR (lineR (⟨11, ck, path, ver, name, data, n, m, url, att, fk, fn, fdata⟩ : ActD))) := Lib.hid (by simp [lineR, knownR]; try omega)
  simp only [actV] at Hb ⊢
  obtain ⟨P1, hP1⟩ : ∃ x, x = mkS path := ⟨_, rfl⟩
  obtain ⟨P2, hP2⟩ : ∃ x, x = mkS ver := ⟨_, rfl⟩
  obtain ⟨P3, hP3⟩ : ∃ x, x = mkS name := ⟨_, rfl⟩
  obtain ⟨P4, hP4⟩ : ∃ x, x = mkS url := ⟨_, rfl⟩
  rw [← hP1, ← hP2, ← hP3, ← hP4] at Hb ⊢
  have HP1 := Lib.hid hP1
  have HP2 := Lib.hid hP2
  have HP3 := Lib.hid hP3
  have HP4 := Lib.hid hP4
  obtain ⟨L1, hL1⟩ : ∃ x, x = data.length := ⟨_, rfl⟩
  obtain ⟨L2, hL2⟩ : ∃ x, x = fdata.length := ⟨_, rfl⟩
  rw [← hL1, ← hL2] at Hb ⊢
  clear hP1 hP2 hP3 hP4 hL1 hL2
  go_enter Tryd.func21, Tryd.ntmps21
  go_wp2_with fail
  generalize hx : World.alloc (World.alloc (World.alloc (World.alloc w _) _) _) _ = x
  have hxa : x.heap[w.heap.size]? = some (.cells #[.int .i64 11, .int .i64 ck, .string P1, .string P2, .string P3, .slice A1 L1 c1, .int .i64 n, .int .i64 m, .string P4, .int .i64 att, .int .i64 fk, .int .i64 fn, .slice A2 L2 c2] 28 (0, 0)) := by rw [← hx]; simp only [heap_alloc_if, World.size_alloc]; (repeat (rw [if_neg (by omega)])); first | rfl | (rw [if_pos trivial]; rfl)
  have hxb : x.heap[w.heap.size + 1]? = some (.cells #[.int .i64 11, .int .i64 0, .slice none 0 0, .slice (some ⟨w.heap.size + 1 + 1, 0, none⟩) 1 1] 49 (0, 0)) := by rw [← hx]; simp only [heap_alloc_if, World.size_alloc]; (repeat (rw [if_neg (by omega)])); first | rfl | (rw [if_pos trivial]; rfl)
  have hxs : x.heap[w.heap.size + 1 + 1 + 1]? = some (.cells #[.int .i64 11, .int .i64 0, .slice none 0 0, .slice (some ⟨w.heap.size + 1 + 1, 0, none⟩) 1 1] 49 (0, 0)) := by rw [← hx]; simp only [heap_alloc_if, World.size_alloc]; (repeat (rw [if_neg (by omega)])); first | rfl | (rw [if_pos trivial]; rfl)
  have hB : Below w.heap.size w x := by rw [← hx]; exact ⟨rfl, rfl, rfl, by simp; omega, fun q hq => by simp only [heap_alloc_if, World.size_alloc]; repeat (rw [if_neg (by omega)])⟩
  have hxn : x.heap[w.heap.size + 1 + 1]? = some (.cells (intsV [n]).toArray 3 (0, 0)) := by rw [← hx]; simp only [heap_alloc_if, World.size_alloc]; (repeat (rw [if_neg (by omega)])); first | rfl | (rw [if_pos trivial]; rfl)
  have hbR : RBox x #[.int .i64 11, .int .i64 0, .slice none 0 0, .slice (some ⟨w.heap.size + 1 + 1, 0, none⟩) 1 1] (⟨11, 0, [], [n]⟩ : RActD) := rbox_mk (R := (⟨11, 0, [], [n]⟩ : RActD)) (D := []) (by simp [HP1.out, HP2.out, HP3.out, HP4.out, toL_mkS]) (sl_none _) (sl_row hxn rfl (by unfold maxLen; omega)) rfl rfl
  have hbS : RBox x #[.int .i64 11, .int .i64 0, .slice none 0 0, .slice (some ⟨w.heap.size + 1 + 1, 0, none⟩) 1 1] (⟨11, 0, [], [n]⟩ : RActD) := rbox_mk (R := (⟨11, 0, [], [n]⟩ : RActD)) (D := []) (by simp [HP1.out, HP2.out, HP3.out, HP4.out, toL_mkS]) (sl_none _) (sl_row hxn rfl (by unfold maxLen; omega)) rfl rfl
  have hbA := Hb.out x (H1.out.keep (Cells.of_below hB)) (H2.out.keep (Cells.of_below hB))
  obtain ⟨rs, hrs⟩ : ∃ rs, rs = w.heap.size + 1 + 1 + 1 := ⟨_, rfl⟩
  have HbA := Lib.hid hbA
  rw [← hrs] at hxs ⊢
  have HbR := Lib.hid hbR
  have HbS := Lib.hid hbS
  have HB := Lib.hid hB
  have Hxa := Lib.hid hxa
  have Hxb := Lib.hid hxb
  have Hxs := Lib.hid hxs
  have ra : x.drew.rangeAt w.heap.size 0 [.int .i64 11, .int .i64 ck, .string P1, .string P2, .string P3, .slice A1 L1 c1, .int .i64 n, .int .i64 m, .string P4, .int .i64 att, .int .i64 fk, .int .i64 fn, .slice A2 L2 c2] := rangeAt_of hxa
  have rsh : x.drew.rangeAt rs 0 [.int .i64 11, .int .i64 0, .slice none 0 0, .slice (some ⟨w.heap.size + 1 + 1, 0, none⟩) 1 1] := rangeAt_of hxs
  have hws := HB.out.size
  clear hx hbR hbS hB hxa hxb hxs hrs hbA  hxn
  with_reducible refine g_mixx [(0, 1), (1, 1), (2, 0), (4, 0), (3, 2), (5, 2), (6, 0), (7, 0), (8, 0)] (fun w' => w'.rangeAt w.heap.size 0 [.int .i64 11, .int .i64 ck, .string P1, .string P2, .string P3, .slice A1 L1 c1, .int .i64 n, .int .i64 m, .string P4, .int .i64 att, .int .i64 fk, .int .i64 fn, .slice A2 L2 c2] ∧ w'.rangeAt rs 0 [.int .i64 11, .int .i64 0, .slice none 0 0, .slice (some ⟨w.heap.size + 1 + 1, 0, none⟩) 1 1]) 1 (some 136) rfl (by kernel_rfl) (by kernel_rfl) ?_ ?_
  · exact ⟨ra, rsh⟩
  intro OPS HD
  simp only [mixX, nthO, consX]
  iterate 2 ((with_reducible refine x_any (v := ?_) ?_ ?_); rotate_left; (rintro _; go_simp; first | done | rfl | (constructor <;> rfl)))
  refine x_valg HD (by go_simp) (fun wy hy => run_load_row 49 (.tmp 5) rs 0 (by simp [Act.eval, Act.put]) [.int .i64 11, .int .i64 0, .slice none 0 0, .slice (some ⟨w.heap.size + 1 + 1, 0, none⟩) 1 1] hy.2 Tryd.underlying49 rfl sizeR) ⟨ra, rsh⟩ ?_
  refine x_valg HD (by go_simp) (fun wy hy => run_load_row 28 (.tmp 1) w.heap.size 0 (by simp [Act.eval, Act.put]) [.int .i64 11, .int .i64 ck, .string P1, .string P2, .string P3, .slice A1 L1 c1, .int .i64 n, .int .i64 m, .string P4, .int .i64 att, .int .i64 fk, .int .i64 fn, .slice A2 L2 c2] hy.1 Tryd.underlying28 rfl sizeAct) ⟨ra, rsh⟩ ?_
  with_reducible refine x_one ?_
  refine l_onceg HD (by go_simp) ?_
  refine l_call ?_ ((act_ref x.drew #[.int .i64 11, .int .i64 0, .slice none 0 0, .slice (some ⟨w.heap.size + 1 + 1, 0, none⟩) 1 1] (⟨11, 0, [], [n]⟩ : RActD) (HbS.out.keep fun _ _ h => h) (by rw [← HSR.out]; exact line_wf Ha.out HK.out)).mono ?_)
  · go_simp
  rintro e x1 ⟨VA, rfl, hVA, hB1⟩
  refine ⟨_, rfl, ?_⟩
  have hxd : x.drew.heap.size = x.heap.size := rfl
  have ra1 : x1.rangeAt w.heap.size 0 [.int .i64 11, .int .i64 ck, .string P1, .string P2, .string P3, .slice A1 L1 c1, .int .i64 n, .int .i64 m, .string P4, .int .i64 att, .int .i64 fk, .int .i64 fn, .slice A2 L2 c2] := rangeAt_of ((hB1.block _ (lt_of_heap Hxa.out)).trans Hxa.out)
  have rs1 : x1.rangeAt rs 0 [.int .i64 11, .int .i64 0, .slice none 0 0, .slice (some ⟨w.heap.size + 1 + 1, 0, none⟩) 1 1] := rangeAt_of ((hB1.block _ (lt_of_heap Hxs.out)).trans Hxs.out)
  refine x_keep ⟨ra1, rs1⟩ ?_
  with_reducible refine x_one ?_
  refine l_onceg HD (by go_simp) ?_
  have hbA1 := HbA.out.keep (w' := x1) (fun p v h => Cells.of_below hB1 p v h)
  refine l_call ?_ ((hVA.same hbA1).mono ?_)
  · go_simp
  rintro e x2 ⟨rfl, hB2⟩
  refine ⟨_, rfl, ?_⟩
  obtain ⟨sm, hsm⟩ : ∃ sm, sm = decide (actR (⟨11, 0, [], [n]⟩ : RActD) = (⟨11, ck, path, ver, name, data, n, m, url, att, fk, fn, fdata⟩ : ActD)) := ⟨_, rfl⟩
  have HBad : Hid ((!sm) = badA (⟨11, ck, path, ver, name, data, n, m, url, att, fk, fn, fdata⟩ : ActD)) := Lib.hid (by
    unfold badA
    rw [decide_eq_true HK.out, Bool.true_and, HSR.out, ← hsm])
  have hB12 : Below x.heap.size x x2 := (show Below x.heap.size x x1 from ⟨hB1.os, hB1.tape, hB1.output, hB1.size, hB1.block⟩).trans (hB2.mono hB1.size)
  have ra2 : x2.rangeAt w.heap.size 0 [.int .i64 11, .int .i64 ck, .string P1, .string P2, .string P3, .slice A1 L1 c1, .int .i64 n, .int .i64 m, .string P4, .int .i64 att, .int .i64 fk, .int .i64 fn, .slice A2 L2 c2] := rangeAt_of ((hB12.block _ (lt_of_heap Hxa.out)).trans Hxa.out)
  have rs2 : x2.rangeAt rs 0 [.int .i64 11, .int .i64 0, .slice none 0 0, .slice (some ⟨w.heap.size + 1 + 1, 0, none⟩) 1 1] := rangeAt_of ((hB12.block _ (lt_of_heap Hxs.out)).trans Hxs.out)
  refine x_keep ⟨ra2, rs2⟩ ?_
  iterate 1 ((with_reducible refine x_valg (v := ?_) HD ?_ ?_ ?_ ?_); rotate_left; go_simp; (rintro _ h; go_simp; first | done | rfl | (constructor <;> rfl)); exact ⟨ra2, rs2⟩)
  iterate 2 ((with_reducible refine x_val (v := ?_) ?_ ?_ ?_); rotate_left; (rintro _ h; go_simp; first | done | rfl | (constructor <;> rfl)); exact ⟨ra2, rs2⟩)
  with_reducible refine x_end ?_
  simp only [Act.put, List.setIfInBounds_toArray, List.set_cons_zero, List.set_cons_succ]
  obtain ⟨bd, hbd⟩ : ∃ bd, bd = !sm := ⟨_, rfl⟩
  rw [← hsm, ← hbd]
  have HBd : Hid (badA (⟨11, ck, path, ver, name, data, n, m, url, att, fk, fn, fdata⟩ : ActD) = bd) := Lib.hid (by rw [hbd, HBad.out])
  obtain ⟨q0, q1, q2, q3⟩ := row4 ((hB12.block _ (lt_of_heap Hxb.out)).trans Hxb.out)
  have hbR2 := HbR.out.keep (Cells.of_below hB12)
  have HB2 := Lib.hid (HB.out.trans (hB12.mono HB.out.size))
  have HbR2 := Lib.hid hbR2
  clear ra rsh hB12 hbR2 HD hsm hbd ra1 rs1 ra2 rs2 hxd hVA hbA1 hB1 hB2
  go_wp2_with fail
  refine (rformat_ref x2 _ (⟨11, 0, [], [n]⟩ : RActD) bd (Hw.out.below HB2.out) HbR2.out (by rw [← HLR.out]; exact line_small Ha.out) (by rw [← HLR.out]; exact line_nums Ha.out) (by rw [← HLR.out]; exact line_cnt _)).mono ?_
  rintro e x3 ⟨rfl, hB3⟩
  have HFin : Hid (LnPost w (⟨11, ck, path, ver, name, data, n, m, url, att, fk, fn, fdata⟩ : ActD) (.returned (.tuple #[.string (mkS (rformat (⟨11, 0, [], [n]⟩ : RActD) bd).1), .int .i64 (rformat (⟨11, 0, [], [n]⟩ : RActD) bd).2])) x3) := Lib.hid (by
    have := Hl.out
    rw [HLR.out, HBd.out] at this
    unfold LnPost
    rw [← this]
    exact ⟨rfl, HB2.out.trans (hB3.mono HB2.out.size)⟩)
  generalize rformat (⟨11, 0, [], [n]⟩ : RActD) bd = pr at *
  obtain ⟨p1, p2⟩ := pr
  simp only at HFin ⊢
  obtain ⟨QF, hQF⟩ : ∃ QF, QF = mkS p1 := ⟨_, rfl⟩
  rw [← hQF] at HFin ⊢
  clear hB3 hQF
  go_wp2_with fail
  go_ret2
  exact HFin.out
end Go.Proofs.YtbmnbhammganfaaDoor
