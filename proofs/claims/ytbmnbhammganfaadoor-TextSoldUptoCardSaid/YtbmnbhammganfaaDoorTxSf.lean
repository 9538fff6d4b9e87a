/-
  text.FormatSold: the line of what is sold.
-/
import Derived.Test.YtbmnbhammganfaaDoorTxSo
import Derived.Test.YtbmnbhammganfaaDoorH4
import Derived.Test.YtbmnbhammganfaaDoorH5
namespace Go.Proofs.YtbmnbhammganfaaDoor
open Go.RowKit Go.Maps

set_option linter.unusedSimpArgs false

attribute [local go_sem] lt1 lt2 lt3 lt4 lt5 lt6

def flatL : List Fl → List (List UInt8)
  | [] => []
  | p :: r => toL p.1 :: p.2 :: flatL r
theorem flatL_append (a b : List Fl) : flatL (a ++ b) = flatL a ++ flatL b := by
  induction a with
  | nil => rfl
  | cons p r ih => rw [List.cons_append, flatL, flatL, ih]; rfl
theorem flatL_len (l : List Fl) : (flatL l).length = 2 * l.length := by
  induction l with
  | nil => rfl
  | cons p r ih => rw [flatL, List.length_cons, List.length_cons, List.length_cons, ih]; omega
def soldWords (d : SoldD) : List (List UInt8) := sellW :: toL d.path :: toL d.ver :: d.man :: flatL d.files
structure SoldOk (d : SoldD) : Prop where
  path : d.path.size ≤ 1048576
  ver : d.ver.size ≤ 1048576
  man : d.man.length ≤ 1048576
  files : ∀ p ∈ d.files, p.1.size ≤ 1048576 ∧ p.2.length ≤ 1048576
  few : d.files.length ≤ 1048576
theorem flatL_small {l : List Fl} (h : ∀ p ∈ l, p.1.size ≤ 1048576 ∧ p.2.length ≤ 1048576) : ∀ x ∈ flatL l, x.length ≤ 1048576 := by
  induction l with
  | nil => intro x hx; simp [flatL] at hx
  | cons p r ih =>
    intro x hx
    have h1 := h p (by simp)
    rw [flatL] at hx
    rcases List.mem_cons.1 hx with rfl | hx
    · rw [toL_len]; exact h1.1
    · rcases List.mem_cons.1 hx with rfl | hx
      · exact h1.2
      · exact ih (fun q hq => h q (by simp [hq])) x hx
theorem soldWords_small {d : SoldD} (h : SoldOk d) : ∀ x ∈ soldWords d, x.length ≤ 1048576 := by
  intro x hx
  unfold soldWords at hx
  simp only [List.mem_cons] at hx
  rcases hx with rfl | rfl | rfl | rfl | hx
  · simp [sellW]
  · rw [toL_len]; exact h.path
  · rw [toL_len]; exact h.ver
  · exact h.man
  · exact flatL_small h.files x hx
theorem soldWords_len (d : SoldD) : (soldWords d).length = 4 + 2 * d.files.length := by
  unfold soldWords
  simp only [List.length_cons, flatL_len]
  omega
theorem sold_line {d : SoldD} (h : SoldOk d) : (joinB ((soldWords d).map writeW)).length ≤ 20000000000000 := by
  have h1 := joinB_len 6291458 ((soldWords d).map writeW) (fun x hx => by
    obtain ⟨y, hy, rfl⟩ := List.mem_map.1 hx
    have h2 := writeW_len6 y
    have h3 := soldWords_small h y hy
    omega)
  rw [List.length_map, soldWords_len] at h1
  have h2 := h.few
  have h3 : (4 + 2 * d.files.length) * (6291458 + 1) ≤ (4 + 2 * 1048576) * (6291458 + 1) := Nat.mul_le_mul_right _ (by omega)
  omega
/-- the words so far -/
def SfRel (x0 : World) (d : SoldD) (ov iv : Value) (wr : World) : Prop := ∃ (j : Nat) (L : List ByteArray), j ≤ d.files.length ∧ iv = .int .i64 (j : Nat) ∧ L.map toL = ((sellW :: toL d.path :: toL d.ver :: d.man :: flatL (d.files.take j))).map writeW ∧ L.length = 4 + 2 * j ∧ wr.ownsRow x0.heap.size 9 1 ov L.length (txs L) ∧ Below x0.heap.size x0 wr
set_option maxRecDepth 100000 in
set_option maxHeartbeats 8000000 in
theorem formatSold_any (w : World) (V : Array Value) (d : SoldD) (hV : SoBox w V d) (hd : SoldOk d) : Calls Tryd.prog 27 #[.agg V] w fun e w' => e = .returned (.string (mkS (joinB ((soldWords d).map writeW)))) ∧ Below w.heap.size w w' := by
  obtain ⟨A, c, AF, cF, rfl, hm, hf⟩ := hV
  obtain ⟨p, v, man, files⟩ := d
  simp only [sV] at hm hf ⊢
  have Hline := Lib.hid (sold_line hd)
  obtain ⟨k1, k2, k3, k4, k5⟩ := hd
  simp only at k1 k2 k3 k4 k5
  have Hk4 := Lib.hid k4
  obtain ⟨M, hM⟩ : ∃ M, M = (⟨man.toArray⟩ : ByteArray) := ⟨_, rfl⟩
  have hMz : M.size ≤ 1048576 := by
    have : M.size = man.length := by rw [hM]; simp [ByteArray.size]
    omega
  have HM : Hid (toL M = man) := Lib.hid (by rw [hM]; rfl)
  have hcm : ∀ w', Bs w' A c man → (convert 24 9 (.slice A man.length c)).run Tryd.prog w' = .ok (.string M) w' := fun w' h => by rw [hM]; exact str_of_bs h
  have Hf := Lib.hid hf
  have Hm0 := Lib.hid hm
  clear hf hm hM k4
  obtain ⟨nm, hnm⟩ : ∃ nm, nm = man.length := ⟨_, rfl⟩
  rw [← hnm] at hcm ⊢
  clear hnm
  obtain ⟨nf, hnf⟩ : ∃ nf, nf = files.length := ⟨_, rfl⟩
  rw [← hnf] at k5 ⊢
  have Hnf := Lib.hid hnf
  clear hnf
  go_enter Tryd.func27, Tryd.ntmps27
  go_wp2_with fail
  obtain ⟨x0, hx0⟩ : ∃ x0, x0 = w.alloc (.cells #[.string p, .string v, .slice A nm c, .slice AF nf cF] 60) := ⟨_, rfl⟩
  rw [← hx0]
  have hr0 : x0.heap[w.heap.size]? = some (.cells #[.string p, .string v, .slice A nm c, .slice AF nf cF] 60 (0, 0)) := by rw [hx0]; exact heap_alloc_new _ _
  have hB0 : Below w.heap.size w x0 := by rw [hx0]; exact (Below.refl _ _).alloc (Nat.le_refl _) _
  have Hm := Lib.hid (Hm0.out.keep (Cells.of_below hB0))
  have Hf0 := Lib.hid (Hf.out.below hB0)
  have HB0 := Lib.hid hB0
  have Hr0 := Lib.hid hr0
  have hrl := lt_of_heap hr0
  have hz0 := hB0.size
  obtain ⟨ra, hra⟩ : ∃ ra, ra = w.heap.size := ⟨_, rfl⟩
  rw [← hra] at hrl Hr0 ⊢
  clear hx0 hr0 hB0 Hm0 Hf hra
  have d0 : x0.drew.cell? ⟨ra, 0, none⟩ = some (.string p) := (blk_cells (w := x0.drew) Hr0.out).1 0
  have d1 : x0.drew.cell? ⟨ra, 1, none⟩ = some (.string v) := (blk_cells (w := x0.drew) Hr0.out).1 1
  have d2 : x0.drew.cell? ⟨ra, 2, none⟩ = some (.slice A nm c) := (blk_cells (w := x0.drew) Hr0.out).1 2
  have d3 : Bs x0.drew A c man := Hm.out.keep fun _ _ h => h
  with_reducible refine g_mixx [(0, 0), (1, 0), (2, 0), (4, 0), (5, 0), (6, 0), (8, 0), (9, 0), (10, 0), (3, 2), (7, 2), (11, 2), (12, 2), (13, 1)] (fun w' => (w'.cell? ⟨ra, 0, none⟩ = some (.string p) ∧ w'.cell? ⟨ra, 1, none⟩ = some (.string v) ∧ w'.cell? ⟨ra, 2, none⟩ = some (.slice A nm c)) ∧ Bs w' A c man) 0 _ rfl (by kernel_rfl) (by kernel_rfl) ?_ ?_
  · exact ⟨⟨d0, d1, d2⟩, d3⟩
  intro OPS HD
  simp only [mixX, nthO, consX]
  iterate 8 ((with_reducible refine x_val (v := ?_) ?_ ?_ ?_); rotate_left; (rintro _ ⟨⟨h1, h2, h3⟩, h4⟩; go_simp; first | done | rfl | (constructor <;> rfl)); exact ⟨⟨d0, d1, d2⟩, d3⟩)
  refine x_val (v := .string M) (fun wy hy => ?_) ⟨⟨d0, d1, d2⟩, d3⟩ ?_
  · have hq := hcm wy hy.2
    go_simp
  with_reducible refine x_one ?_
  refine l_call ?_ ((word_any x0.drew p k1).mono ?_)
  · go_simp
  rintro e y1 ⟨rfl, hB1⟩
  have hB1' : Below x0.heap.size x0 y1 := ⟨hB1.os, hB1.tape, hB1.output, hB1.size, hB1.block⟩
  refine ⟨_, rfl, ?_⟩
  refine x_keep ⟨⟨(hB1'.cell hrl).trans d0, (hB1'.cell hrl).trans d1, (hB1'.cell hrl).trans d2⟩, Hm.out.keep (Cells.of_below hB1')⟩ ?_
  with_reducible refine x_one ?_
  refine l_call ?_ ((word_any y1 v k2).mono ?_)
  · go_simp
  rintro e y2 ⟨rfl, hB2⟩
  have hB2' := hB1'.trans (hB2.mono hB1'.size)
  refine ⟨_, rfl, ?_⟩
  refine x_keep ⟨⟨(hB2'.cell hrl).trans d0, (hB2'.cell hrl).trans d1, (hB2'.cell hrl).trans d2⟩, Hm.out.keep (Cells.of_below hB2')⟩ ?_
  with_reducible refine x_one ?_
  refine l_call ?_ ((word_any y2 M hMz).mono ?_)
  · go_simp
  rintro e y3 ⟨rfl, hB3⟩
  have hB3' := hB2'.trans (hB3.mono hB2'.size)
  refine ⟨_, rfl, ?_⟩
  refine x_keep ⟨⟨(hB3'.cell hrl).trans d0, (hB3'.cell hrl).trans d1, (hB3'.cell hrl).trans d2⟩, Hm.out.keep (Cells.of_below hB3')⟩ ?_
  with_reducible refine x_one ?_
  iterate 1 (with_reducible refine l_val (v := ?_) (w' := ?_) ?_ ?_; rotate_left 2; (go_simp; first | done | rfl | (constructor <;> rfl)))
  have hB4' : Below x0.heap.size x0 (y3.alloc (.cells (txs [mkS sellW, mkS (writeW (toL p)), mkS (writeW (toL v)), mkS (writeW (toL M))]).toArray 9)) := hB3'.alloc hB3'.size _
  refine x_keep ⟨⟨(hB4'.cell hrl).trans d0, (hB4'.cell hrl).trans d1, (hB4'.cell hrl).trans d2⟩, Hm.out.keep (Cells.of_below hB4')⟩ ?_
  iterate 1 ((with_reducible refine x_any (v := ?_) ?_ ?_); rotate_left; (rintro _; go_simp; first | done | rfl | (constructor <;> rfl)))
  with_reducible refine x_end ?_
  simp only [Act.put, List.setIfInBounds_toArray, List.set_cons_zero, List.set_cons_succ]
  have hW0 : (mkS sellW) = (⟨#[115, 101, 108, 108]⟩ : ByteArray) := rfl
  have hL0 : List.map toL [mkS sellW, mkS (writeW (toL p)), mkS (writeW (toL v)), mkS (writeW (toL M))] = (sellW :: toL p :: toL v :: man :: flatL (files.take 0)).map writeW := by
    rw [HM.out]
    simp only [List.map_cons, List.map_nil, toL_mkS, List.take_zero, flatL]
    rw [show writeW sellW = sellW by decide]
  rw [HM.out] at hB4' hL0 ⊢
  have hown4 : (y3.alloc (.cells (txs [mkS sellW, mkS (writeW (toL p)), mkS (writeW (toL v)), mkS (writeW man)]).toArray 9)).ownsRow x0.heap.size 9 1 (.slice (some ⟨y3.heap.size, 0, none⟩) 4 4) 4 (txs [mkS sellW, mkS (writeW (toL p)), mkS (writeW (toL v)), mkS (writeW man)]) := own_of_block hB3'.size (heap_alloc_new _ _) (by unfold maxLen; simp [txs])
  simp only [txs, List.map_cons, List.map_nil, hW0] at hB4' hown4
  generalize hx4 : y3.alloc (Obj.cells #[_, _, _, _] 9) = x4
  have hx4' : y3.alloc (.cells [Value.string ⟨#[115, 101, 108, 108]⟩, .string (mkS (writeW (toL p))), .string (mkS (writeW (toL v))), .string (mkS (writeW man))].toArray 9) = x4 := hx4
  rw [hx4'] at hB4' hown4
  obtain ⟨P1, hP1⟩ : ∃ P1, P1 = mkS (writeW (toL p)) := ⟨_, rfl⟩
  obtain ⟨P2, hP2⟩ : ∃ P2, P2 = mkS (writeW (toL v)) := ⟨_, rfl⟩
  obtain ⟨P3, hP3⟩ : ∃ P3, P3 = mkS (writeW man) := ⟨_, rfl⟩
  rw [← hP1, ← hP2, ← hP3] at hown4 hL0
  rw [← hP1, ← hP2, ← hP3]
  rw [hW0] at hL0
  have Hown4 := Lib.hid hown4
  have HB4 := Lib.hid hB4'
  have HL0 := Lib.hid hL0
  have c3 : x4.cell? ⟨ra, 3, none⟩ = some (.slice AF nf cF) := (hB4'.cell hrl).trans ((blk_cells (w := x0) Hr0.out).1 3)
  have hx4z := hB4'.size
  obtain ⟨gW, hgW⟩ : ∃ gW, gW = y3.heap.size := ⟨_, rfl⟩
  rw [← hgW] at Hown4 ⊢
  clear hx4 hx4' hP1 hP2 hP3 hown4 hB4' hL0 hW0 hB1 hB1' hB2 hB2' hB3 hB3' hgW HD d0 d1 d2 d3 hcm
  go_wp2_with fail
  go_loopw [3, 22] (fun ov iv wr => SfRel x0 ⟨p, v, man, files⟩ ov iv wr) (fun _ iv _ => nf - (intOf iv).toNat)
  case atStart => exact ⟨0, [⟨#[115, 101, 108, 108]⟩, P1, P2, P3], by omega, rfl, HL0.out, rfl, Hown4.out, HB4.out⟩
  case round =>
    clear Hown4 HB4 HL0
    obtain ⟨j, L, hj, rfl, hL, hLl, hown, hB⟩ := hrel
    simp only at hj hL
    have HL := Lib.hid hL
    have Hown := Lib.hid hown
    have HB := Lib.hid hB
    have hrz := hB.size
    rw [← Hnf.out] at hj
    obtain ⟨Av, cv, rfl, _, _, _, _⟩ := own_form hown
    have HLl := Lib.hid hLl
    have hLb : L.length ≤ 2097156 := by omega
    clear hL hown hB hLl
    by_cases hlt : j < nf
    · have hjI : (j : Int) < nf := by omega
      have hjr : (0 : Int) ≤ j := by omega
      obtain ⟨bf, of_, Ai, ci, rfl, g1, g2, hbs⟩ := (Hf0.out.below HB.out).at_ (i := j) (by rw [← Hnf.out]; exact hlt)
      have hqs := Hk4.out _ (List.mem_of_getElem? (fl_getD (ps := files) (i := j) (by rw [← Hnf.out]; exact hlt)))
      have Htk := Lib.hid (take_getD (ps := files) (i := j) (by rw [← Hnf.out]; exact hlt))
      generalize files.getD j noFl = q at *
      obtain ⟨q1, q2⟩ := q
      simp only at g1 g2 hbs hqs
      obtain ⟨hq1, hq2⟩ := hqs
      obtain ⟨M2, hM2⟩ : ∃ M2, M2 = (⟨q2.toArray⟩ : ByteArray) := ⟨_, rfl⟩
      have hM2z : M2.size ≤ 1048576 := by
        have : M2.size = q2.length := by rw [hM2]; simp [ByteArray.size]
        omega
      have HM2 : Hid (toL M2 = q2) := Lib.hid (by rw [hM2]; rfl)
      have hcm2 : ∀ w', Bs w' Ai ci q2 → (convert 24 9 (.slice Ai q2.length ci)).run Tryd.prog w' = .ok (.string M2) w' := fun w' h => by rw [hM2]; exact str_of_bs h
      obtain ⟨n2, hn2⟩ : ∃ n2, n2 = q2.length := ⟨_, rfl⟩
      rw [← hn2] at hcm2 g2
      have hrg : wr.rangeAt bf (of_ + j * 2) [.string q1, .slice Ai n2 ci] := fun k u hu => by
        rcases k with _ | _ | k
        · simp at hu; subst hu; exact g1
        · simp at hu; subst hu; exact g2
        · simp at hu
      have Hrg := Lib.hid hrg
      have Hbs := Lib.hid hbs
      clear hM2 hn2 hrg hbs g1 g2
      go_wp2_with (first
        | (refine wpList_load_mid rfl 67 _ rfl bf (of_ + j * 2) rfl [.string q1, .slice Ai n2 ci] _ Hrg.out Tryd.underlying67 rfl (by kernel_rfl) ?_)
        | (refine wpList_store_new rfl 67 _ _ rfl wr.heap.size rfl #[.string q1, .slice Ai n2 ci] #[.string ⟨#[]⟩, .slice none 0 0] 67 rfl rfl (by kernel_rfl) rfl rfl ?_))
      have hBf : Below x0.heap.size x0 (wr.alloc (.cells #[.string q1, .slice Ai n2 ci] 67)) := HB.out.alloc hrz _
      have hgf : (wr.alloc (.cells #[.string q1, .slice Ai n2 ci] 67)).heap[wr.heap.size]? = some (.cells #[.string q1, .slice Ai n2 ci] 67 (0, 0)) := heap_alloc_new _ _
      have hof : (wr.alloc (.cells #[.string q1, .slice Ai n2 ci] 67)).ownsRow x0.heap.size 9 1 (.slice Av L.length cv) L.length (txs L) := Hown.out.alloc _
      have hbf : Bs (wr.alloc (.cells #[.string q1, .slice Ai n2 ci] 67)) Ai ci q2 := Hbs.out.keep (Cells.alloc _ _)
      generalize (wr.alloc (.cells #[.string q1, .slice Ai n2 ci] 67)) = xf at *
      obtain ⟨g, hg⟩ : ∃ g, g = wr.heap.size := ⟨_, rfl⟩
      rw [← hg] at hgf ⊢
      have HBf := Lib.hid hBf
      have Hof := Lib.hid hof
      have Hbf := Lib.hid hbf
      have hgl := lt_of_heap hgf
      have hxfz := hBf.size
      have d0 : xf.drew.cell? ⟨g, 0, none⟩ = some (.string q1) := (blk_cells (w := xf.drew) hgf).1 0
      have d1 : xf.drew.cell? ⟨g, 1, none⟩ = some (.slice Ai n2 ci) := (blk_cells (w := xf.drew) hgf).1 1
      have d3 : Bs xf.drew Ai ci q2 := hbf.keep fun _ _ h => h
      obtain ⟨iS, hiS, hzS, hsS, hbS⟩ := info_parts infoStr1
      clear hg hgf hBf hof hbf Hrg Hbs c3
      with_reducible refine g_mixx [(0, 1), (1, 0), (2, 0), (4, 0), (5, 0), (6, 0), (3, 2), (7, 2), (8, 2), (9, 3), (10, 1)] (fun w' => (w'.cell? ⟨g, 0, none⟩ = some (.string q1) ∧ w'.cell? ⟨g, 1, none⟩ = some (.slice Ai n2 ci)) ∧ Bs w' Ai ci q2) 0 _ rfl (by kernel_rfl) (by kernel_rfl) ?_ ?_
      · exact ⟨⟨d0, d1⟩, d3⟩
      intro OPS HD
      simp only [mixX, nthO, consX]
      iterate 1 ((with_reducible refine x_any (v := ?_) ?_ ?_); rotate_left; (rintro _; go_simp; first | done | rfl | (constructor <;> rfl)))
      iterate 4 ((with_reducible refine x_val (v := ?_) ?_ ?_ ?_); rotate_left; (rintro _ ⟨⟨h1, h2⟩, h4⟩; go_simp; first | done | rfl | (constructor <;> rfl)); exact ⟨⟨d0, d1⟩, d3⟩)
      refine x_val (v := .string M2) (fun wy hy => ?_) ⟨⟨d0, d1⟩, d3⟩ ?_
      · have hq := hcm2 wy hy.2
        go_simp
      with_reducible refine x_one ?_
      refine l_call ?_ ((word_any xf.drew q1 hq1).mono ?_)
      · go_simp
      rintro e y1 ⟨rfl, hB1⟩
      have hB1' : Below xf.heap.size xf y1 := ⟨hB1.os, hB1.tape, hB1.output, hB1.size, hB1.block⟩
      refine ⟨_, rfl, ?_⟩
      refine x_keep ⟨⟨(hB1'.cell hgl).trans d0, (hB1'.cell hgl).trans d1⟩, Hbf.out.keep (Cells.of_below hB1')⟩ ?_
      with_reducible refine x_one ?_
      refine l_call ?_ ((word_any y1 M2 hM2z).mono ?_)
      · go_simp
      rintro e y2 ⟨rfl, hB2⟩
      have hB2' := hB1'.trans (hB2.mono hB1'.size)
      refine ⟨_, rfl, ?_⟩
      refine x_keep ⟨⟨(hB2'.cell hgl).trans d0, (hB2'.cell hgl).trans d1⟩, Hbf.out.keep (Cells.of_below hB2')⟩ ?_
      with_reducible refine x_one ?_
      iterate 1 (with_reducible refine l_val (v := ?_) (w' := ?_) ?_ ?_; rotate_left 2; (go_simp; first | done | rfl | (constructor <;> rfl)))
      refine x_keep ⟨⟨Cells.alloc _ _ _ _ ((hB2'.cell hgl).trans d0), Cells.alloc _ _ _ _ ((hB2'.cell hgl).trans d1)⟩, (Hbf.out.keep (Cells.of_below hB2')).keep (Cells.alloc _ _)⟩ ?_
      have Hoy : Hid (y2.ownsRow x0.heap.size 9 1 (.slice Av L.length cv) L.length (txs L)) := Lib.hid (own_keep Hof.out fun q c hq => (hB2'.block q (lt_of_heap hq)).trans hq)
      have HBy := Lib.hid (HBf.out.trans (hB2'.mono hxfz))
      have hyz := HBy.out.size
      with_reducible refine x_three ?_
      refine wpList_append_own _ rfl (.tmp 26) (.tmp 34) 39 rfl x0.heap.size 9 iS (.string ByteArray.empty) 1 16 Tryd.underlying39 hiS hzS hsS hbS rfl (by omega) (.slice Av L.length cv) L.length (txs L) ?_ (Hoy.out.alloc _) ⟨y2.heap.size, 0, none⟩ 2 2 [.string (mkS (writeW (toL q1))), .string (mkS (writeW (toL M2)))] ?_ rfl (fun j v hv => World.news_of_block (w := y2.alloc _) (heap_alloc_new y2 _) j v hv) (by intro u hu; simp only [List.mem_cons, List.not_mem_nil, or_false] at hu; rcases hu with rfl | rfl <;> rfl) (by unfold maxLen; omega) (by omega) (by simp; omega) ?_
      · simp [Act.eval, Act.put]
      · simp [Act.eval, Act.put]
      intro v1 wp hown1 hgrow1 _
      have hm : SfRel x0 ⟨p, v, man, files⟩ v1 (.int .i64 ((j : Int) + 1)) wp := by
        refine ⟨j + 1, L ++ [mkS (writeW (toL q1)), mkS (writeW (toL M2))], by simp only; rw [← Hnf.out]; omega, by go_num, ?_, by rw [List.length_append, HLl.out]; simp; omega, ?_, (HBy.out.alloc hyz _).grown hgrow1 (by simp; omega) (fun q hq => (own_blk Hoy.out q hq).1)⟩
        · simp only
          rw [List.map_append, HL.out, Htk.out, flatL_append, HM2.out]
          simp [flatL, toL_mkS]
        · have e1 : (L ++ [mkS (writeW (toL q1)), mkS (writeW (toL M2))]).length = L.length + 2 := by simp
          have e2 : txs (L ++ [mkS (writeW (toL q1)), mkS (writeW (toL M2))]) = txs L ++ [.string (mkS (writeW (toL q1))), .string (mkS (writeW (toL M2)))] := by simp [txs]
          rw [e1, e2]
          exact hown1
      have Hm := Lib.hid hm
      obtain ⟨Av1, cv1, rfl, _, _, _, _⟩ := own_form hown1
      clear hm hown1 hgrow1 hB1 hB1' hB2 hB2' d0 d1 d3
      with_reducible refine x_last ?_
      iterate 1 ((with_reducible refine x_any (v := ?_) ?_ ?_); rotate_left; (rintro _; go_simp; first | done | rfl | (constructor <;> rfl)))
      with_reducible refine x_end ?_
      simp only [Act.put, List.setIfInBounds_toArray, List.set_cons_zero, List.set_cons_succ]
      clear HD
      go_wp2_with fail
      exact ⟨Hm.out, by simp [intOf]; omega⟩
    · have hjI : ¬ (j : Int) < nf := by omega
      have hjn : j = files.length := by rw [← Hnf.out]; omega
      have HLf : Hid (L.map toL = (soldWords ⟨p, v, man, files⟩).map writeW) := Lib.hid (by
        rw [HL.out, hjn, List.take_of_length_le (Nat.le_refl _)]
        rfl)
      obtain ⟨A9, c9, h9, hS9⟩ := row_sl Hown.out
      cases h9
      have HS9 := Lib.hid hS9
      have HB9 := Lib.hid (HB0.out.trans (HB.out.mono HB0.out.size))
      clear hS9 hjn hlt c3
      go_wp2_with fail
      refine (join_call _ L _ _ HS9.out (by rw [HLf.out]; have := Hline.out; omega) (by omega)).mono ?_
      rintro e w5 ⟨rfl, hB5⟩
      rw [HLf.out]
      have HB5 := Lib.hid (HB9.out.trans (hB5.mono HB9.out.size))
      obtain ⟨Q, hQ⟩ : ∃ Q, Q = mkS (joinB ((soldWords ⟨p, v, man, files⟩).map writeW)) := ⟨_, rfl⟩
      rw [← hQ]
      have HQ := Lib.hid hQ
      clear hB5 hQ
      go_wp2_with fail
      go_ret
      exact ⟨congrArg (fun z => Ending.returned (.string z)) HQ.out, HB5.out⟩
end Go.Proofs.YtbmnbhammganfaaDoor
