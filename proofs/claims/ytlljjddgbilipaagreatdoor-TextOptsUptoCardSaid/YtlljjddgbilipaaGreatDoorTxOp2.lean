/-
  text.FormatOpts: options as a line.
-/
import Derived.Test.YtlljjddgbilipaaGreatDoorTxOpm
import Derived.Test.YtlljjddgbilipaaGreatDoorTxLi
namespace Go.Proofs.YtlljjddgbilipaaGreatDoor
open Go.RowKit Go.Maps

set_option linter.unusedSimpArgs false

attribute [local go_sem] lt1 lt2 lt3 lt4 lt5 lt6

theorem app3 (X : List ByteArray) (a b c : ByteArray) : (X ++ [a, b, c]).length = X.length + 3 := by simp
def FoR1 (x0 : World) (b bo bw g : Nat) (d : OptD) (iv : Value) (wr : World) : Prop := ∃ (j : Nat) (v : Value), j ≤ 5 ∧ iv = .int .i64 (j : Nat) ∧ PutAt x0 bo bw (((nums d).take j).all inN) (wr1 d j) v wr ∧ wr.heap[g]? = some (.cells (numPtrs b).toArray 67 (0, 0))
def FoR2 (x0 : World) (bo bw : Nat) (ok : Bool) (d : OptD) (iv : Value) (wr : World) : Prop := ∃ (j : Nat) (v : Value), j ≤ d.tags.length ∧ iv = .int .i64 (j : Nat) ∧ PutAt x0 bo bw ok (wr3 d j) v wr
def FoR3 (x0 : World) (bo bw : Nat) (ok : Bool) (d : OptD) (iv : Value) (wr : World) : Prop := ∃ (j : Nat) (v : Value), j ≤ d.sizes.length ∧ iv = .int .i64 (j : Nat) ∧ PutAt x0 bo bw (ok && (d.sizes.take j).all inN) (wr4 d j) v wr
def FoPost (w : World) (d : OptD) (e : Ending) (w' : World) : Prop := e = .returned (.tuple #[.string (mkS (formatO d).1), .int .i64 (formatO d).2]) ∧ Below w.heap.size w w'
set_option maxRecDepth 100000 in
set_option maxHeartbeats 8000000 in
theorem formatOpts_any (w : World) (hw : Lw w) (V : Array Value) (d : OptD) (hV : OpBox w V d) (hok : OptOk d) : Calls Tryz.prog 8 #[.agg V] w (FoPost w d) := by
  obtain ⟨A1, A2, A3, c1, c2, c3, T, kn, ks, rfl, hs1, hs2, hT, hs3⟩ := hV
  have H1 := Lib.hid hs1
  have H2 := Lib.hid hs2
  have H3 := Lib.hid hs3
  have HT := Lib.hid hT
  have Hok := Lib.hid hok
  obtain ⟨n1, hn1⟩ : ∃ n, n = d.sizes.length := ⟨_, rfl⟩
  obtain ⟨n2, hn2⟩ : ∃ n, n = T.length := ⟨_, rfl⟩
  obtain ⟨n3, hn3⟩ : ∃ n, n = d.secret.length := ⟨_, rfl⟩
  rw [← hn1, ← hn2, ← hn3]
  have Hn := Lib.hid (And.intro hn1 (And.intro hn2 hn3))
  have hn1z : n1 ≤ 1048576 := by have := hok.few2; omega
  have hn2z : n2 ≤ 1048576 := by have := hok.few; rw [← hT, List.length_map] at this; omega
  clear hs1 hs2 hs3 hT hok hn1 hn2 hn3
  obtain ⟨M, hM⟩ : ∃ M, M = (⟨d.secret.toArray⟩ : ByteArray) := ⟨_, rfl⟩
  have HM : Hid (M = mkS d.secret) := Lib.hid hM
  have hcm : ∀ w', Bs w' A3 c3 d.secret → (convert 30 9 (.slice A3 n3 c3)).run Tryz.prog w' = .ok (.string M) w' := fun w' h => by rw [hM, Hn.out.2.2]; exact str_of_bs h
  have Hcm := Lib.hid hcm
  clear hM hcm
  obtain ⟨q1, hq1⟩ : ∃ n, n = d.quota := ⟨_, rfl⟩
  obtain ⟨q2, hq2⟩ : ∃ n, n = d.workers := ⟨_, rfl⟩
  obtain ⟨q3, hq3⟩ : ∃ n, n = d.tries := ⟨_, rfl⟩
  obtain ⟨q4, hq4⟩ : ∃ n, n = d.patience := ⟨_, rfl⟩
  obtain ⟨q5, hq5⟩ : ∃ n, n = d.budget := ⟨_, rfl⟩
  obtain ⟨bp, hbp⟩ : ∃ n, n = mkS d.bypass := ⟨_, rfl⟩
  obtain ⟨nm, hnm⟩ : ∃ n, n = mkS d.name := ⟨_, rfl⟩
  obtain ⟨off, hoff⟩ : ∃ n, n = d.offline := ⟨_, rfl⟩
  rw [← hq1, ← hq2, ← hq3, ← hq4, ← hq5, ← hbp, ← hnm, ← hoff]
  have Hq := Lib.hid (And.intro hq1 (And.intro hq2 (And.intro hq3 (And.intro hq4 hq5))))
  have Hs := Lib.hid (And.intro hbp (And.intro hnm hoff))
  have Hw := Lib.hid hw
  have hbz : bp.size ≤ 1048576 := by rw [hbp]; have := Hok.out.bypass; simp [mkS, ByteArray.size]; omega
  have hnz : nm.size ≤ 1048576 := by rw [hnm]; have := Hok.out.name; simp [mkS, ByteArray.size]; omega
  have hMz : M.size ≤ 1048576 := by rw [HM.out]; have := Hok.out.secret; simp [mkS, ByteArray.size]; omega
  obtain ⟨iS, hiS, hzS, hsS, hbS⟩ := info_parts infoStr1
  clear hq1 hq2 hq3 hq4 hq5 hbp hnm hoff hw
  go_enter Tryz.func8, Tryz.ntmps8
  go_wp2_with fail
  obtain ⟨x0, hx0⟩ : ∃ x0, x0 = w.alloc (.cells (opV q1 (.slice A1 n1 c1) q2 q3 q4 q5 (.slice A2 n2 c2) bp off kn ks nm (.slice A3 n3 c3)).toArray 32) := ⟨_, rfl⟩
  rw [← hx0]
  have hr0 : x0.heap[w.heap.size]? = some (.cells (opV q1 (.slice A1 n1 c1) q2 q3 q4 q5 (.slice A2 n2 c2) bp off kn ks nm (.slice A3 n3 c3)).toArray 32 (0, 0)) := by rw [hx0]; exact heap_alloc_new _ _
  have hB0 : Below w.heap.size w x0 := by rw [hx0]; exact (Below.refl _ _).alloc (Nat.le_refl _) _
  have hz0 : x0.heap.size = w.heap.size + 1 := by rw [hx0]; simp
  have HB0 := Lib.hid hB0
  have Hr0 := Lib.hid hr0
  have Hw0 := Lib.hid (Hw.out.below hB0)
  have H10 := Lib.hid (H1.out.keep (Cells.of_below hB0))
  have H20 := Lib.hid (H2.out.keep (Cells.of_below hB0))
  have H30 := Lib.hid (H3.out.keep (Cells.of_below hB0))
  have hrl := lt_of_heap hr0
  clear hx0 hB0 hr0 H1 H2 H3 Hw
  have hP : PutAt x0 (w.heap.size + 3) (w.heap.size + 2) (((nums d).take 0).all inN) (wr1 d 0) (.slice (some ⟨w.heap.size + 1, 0, none⟩) 1 1) (((x0.alloc (.cells #[.string ⟨#[115, 116, 111, 114, 121]⟩] 9)).alloc (.cells #[.slice (some ⟨w.heap.size + 1, 0, none⟩) 1 1] 25)).alloc (.cells #[.bool true] 4)) := by
    refine ⟨?_, ?_, ?_, ?_, by omega, by omega⟩
    · rw [heap_alloc_if, if_pos (by simp; omega)]
      rfl
    · rw [heap_alloc_if, if_neg (by simp; omega), heap_alloc_if, if_pos (by simp; omega)]
    · refine own_of_block (xs := txs (wr1 d 0)) (by omega) ?_ (by simp [txs, wr1, maxLen])
      rw [heap_alloc_if, if_neg (by simp; omega), heap_alloc_if, if_neg (by simp; omega), heap_alloc_if, if_pos (by omega)]
      rfl
    · exact (((Below.refl x0.heap.size x0).alloc (Nat.le_refl _) _).alloc (by simp) _).alloc (by simp; omega) _
  generalize (((x0.alloc (.cells #[.string ⟨#[115, 116, 111, 114, 121]⟩] 9)).alloc (.cells #[.slice (some ⟨w.heap.size + 1, 0, none⟩) 1 1] 25)).alloc (.cells #[.bool true] 4)) = x1 at *
  generalize (Value.slice (some ⟨w.heap.size + 1, 0, none⟩) 1 1) = v0 at *
  have hrb : ∃ b, b = w.heap.size := ⟨_, rfl⟩
  obtain ⟨b, hb⟩ := hrb
  rw [show w.heap.size + 1 + 1 + 1 = w.heap.size + 3 from rfl, show w.heap.size + 1 + 1 = w.heap.size + 2 from rfl]
  rw [← hb] at hrl Hr0 hP ⊢
  have hlo := hP.lo
  have hlw := hP.lw
  obtain ⟨bo, hbo⟩ : ∃ z, z = b + 3 := ⟨_, rfl⟩
  obtain ⟨bw, hbw⟩ : ∃ z, z = b + 2 := ⟨_, rfl⟩
  rw [← hbo, ← hbw] at hP ⊢
  rw [← hbo] at hlo
  rw [← hbw] at hlw
  clear hb hbo hbw hz0
  have HP := Lib.hid hP
  clear hP
  refine (numbers_any x1 b).mono ?_
  rintro e x2 ⟨rfl, hg, hB2⟩
  have HP2 := Lib.hid (HP.out.below hB2)
  have Hg := Lib.hid hg
  obtain ⟨g, hgg⟩ : ∃ g, g = x1.heap.size := ⟨_, rfl⟩
  rw [← hgg] at Hg ⊢
  clear HP hg hB2 hgg
  go_wp2_with fail
  have Hnum := Lib.hid (fun (j : Nat) (hj : j < 5) => num_at d b (w := x0) (sv := .slice A1 n1 c1) (tv := .slice A2 n2 c2) (cv := .slice A3 n3 c3) (bp := bp) (kn := kn) (ks := ks) (nm := nm) (by rw [← Hq.out.1, ← Hq.out.2.1, ← Hq.out.2.2.1, ← Hq.out.2.2.2.1, ← Hq.out.2.2.2.2, ← Hs.out.2.2]; exact Hr0.out) hj Hok.out)
  go_loopw [17] (fun iv wr => FoR1 x0 b bo bw g d iv wr) (fun iv _ => 5 - (intOf iv).toNat)
  case atStart => exact ⟨0, v0, by omega, rfl, HP2.out, Hg.out⟩
  case round =>
    clear HP2 Hg
    obtain ⟨j, v, hj, rfl, hP, hg⟩ := hrel
    have HP := Lib.hid hP
    have Hg := Lib.hid hg
    clear hP hg
    by_cases hlt : j < 5
    · obtain ⟨o, n, hp, hn, hc, hn64⟩ := Hnum.out j hlt
      have hcw : wr.cell? ⟨b, o, none⟩ = some (.int .i64 n) := (HP.out.fr.cell hrl).trans hc
      have hgc : wr.cell? ⟨g, j, none⟩ = some (.pointer (some ⟨b, o, none⟩)) := ((blk_cells Hg.out).1 j).trans hp
      have hjI : (j : Int) < 5 := by omega
      have Hn1 := Lib.hid hn
      clear hp hn hc
      go_wp2_with fail
      refine (put_any Hw0.out HP.out (by rw [wr1_len d hj]; omega) n hn64.1 hn64.2).mono ?_
      rintro e w' ⟨rfl, v', hP', hO⟩
      have Hm : Hid (FoR1 x0 b bo bw g d (.int .i64 ((j : Int) + 1)) w') := Lib.hid ⟨j + 1, v', by omega, by go_num, by rw [all_next Hn1.out, wr1_next d Hn1.out]; exact hP', hO g _ _ _ Hg.out (by decide) (by decide) (by decide)⟩
      clear hP' hO HP Hg hcw hgc
      go_wp2_with fail
      exact ⟨Hm.out, by simp [intOf]; omega⟩
    · have hj5 : j = 5 := by omega
      subst hj5
      clear hlt hj Hg Hnum
      have hcell : ∀ (i : Nat) (u : Value) (y : World), Below x0.heap.size x0 y → (opV q1 (.slice A1 n1 c1) q2 q3 q4 q5 (.slice A2 n2 c2) bp off kn ks nm (.slice A3 n3 c3)).toArray[i]? = some u → y.cell? ⟨b, i, none⟩ = some u := fun i u y hB hu => (hB.cell hrl).trans (((blk_cells Hr0.out).1 i).trans hu)
      have Hcell := Lib.hid hcell
      have c8 : wr.cell? ⟨b, 8, none⟩ = some (.bool off) := Hcell.out 8 _ wr HP.out.fr rfl
      have Hl1 := Lib.hid (wr1_len d (j := 5) (by omega))
      clear hcell
      rcases Bool.eq_false_or_eq_true off with hof | hof
      · subst hof
        have Hof : Hid (offN d = 1) := Lib.hid (by unfold offN; rw [← Hs.out.2.2]; rfl)
        go_wp2_with fail
        refine (put_any Hw0.out HP.out (by rw [Hl1.out]; omega) 1 (by omega) (by omega)).mono ?_
        rintro e x3 ⟨rfl, v3, hP3, _⟩
        rw [show decide (-4611686018427387904 ≤ (1 : Int) ∧ (1 : Int) ≤ 4611686018427387904) = inN (offN d) from by rw [Hof.out]; rfl, show [mkS (Lib.itoa 1)] = [sI (offN d)] from by rw [Hof.out]; rfl] at hP3
        have HP3 := Lib.hid hP3.drew
        have d7 : x3.drew.cell? ⟨b, 7, none⟩ = some (.string bp) := Hcell.out 7 _ _ HP3.out.fr rfl
        have d11 : x3.drew.cell? ⟨b, 11, none⟩ = some (.string nm) := Hcell.out 11 _ _ HP3.out.fr rfl
        have d12 : x3.drew.cell? ⟨b, 12, none⟩ = some (.slice A3 n3 c3) := Hcell.out 12 _ _ HP3.out.fr rfl
        have dB : Bs x3.drew A3 c3 d.secret := H30.out.keep (Cells.of_below HP3.out.fr)
        have dW : x3.drew.cell? ⟨bw, 0, none⟩ = some v3 := (blk_cells HP3.out.wb).1 0
        have Hl3 : Hid ((wr1 d 5 ++ [sI (offN d)]).length = 7) := Lib.hid (by rw [List.length_append, Hl1.out]; rfl)
        clear hP3 HP c8 Hl1
        go_wp2_with fail
        with_reducible refine g_mixx [(0, 0), (1, 0), (2, 0), (3, 0), (5, 0), (6, 0), (8, 0), (9, 0), (10, 0), (4, 2), (7, 2), (11, 2), (12, 2), (13, 3), (14, 3)] (fun w' => (w'.cell? ⟨bw, 0, none⟩ = some v3 ∧ w'.cell? ⟨b, 7, none⟩ = some (.string bp) ∧ w'.cell? ⟨b, 11, none⟩ = some (.string nm) ∧ w'.cell? ⟨b, 12, none⟩ = some (.slice A3 n3 c3)) ∧ Bs w' A3 c3 d.secret) 0 _ rfl (by kernel_rfl) (by kernel_rfl) ?_ ?_
        · exact ⟨⟨dW, d7, d11, d12⟩, dB⟩
        intro OPS HD
        simp only [mixX, nthO, consX]
        iterate 8 ((with_reducible refine x_val (v := ?_) ?_ ?_ ?_); rotate_left; (rintro _ ⟨⟨h0, h1, h2, h3⟩, h4⟩; go_simp; first | done | rfl | (constructor <;> rfl)); exact ⟨⟨dW, d7, d11, d12⟩, dB⟩)
        refine x_val (v := .string M) (fun wy hy => ?_) ⟨⟨dW, d7, d11, d12⟩, dB⟩ ?_
        · have hq := Hcm.out wy hy.2
          go_simp
        with_reducible refine x_one ?_
        refine l_call ?_ ((word_any x3.drew bp hbz).mono ?_)
        · go_simp
        rintro e y1 ⟨rfl, hB1⟩
        have hB1' : Below x3.drew.heap.size x3.drew y1 := hB1
        refine ⟨_, rfl, ?_⟩
        refine x_keep ⟨⟨(hB1'.cell (lt_of_heap HP3.out.wb)).trans dW, Cells.of_below hB1' _ _ d7, Cells.of_below hB1' _ _ d11, Cells.of_below hB1' _ _ d12⟩, dB.keep (Cells.of_below hB1')⟩ ?_
        with_reducible refine x_one ?_
        refine l_call ?_ ((word_any y1 nm hnz).mono ?_)
        · go_simp
        rintro e y2 ⟨rfl, hB2⟩
        have hB2' := hB1'.trans (hB2.mono hB1'.size)
        refine ⟨_, rfl, ?_⟩
        refine x_keep ⟨⟨(hB2'.cell (lt_of_heap HP3.out.wb)).trans dW, Cells.of_below hB2' _ _ d7, Cells.of_below hB2' _ _ d11, Cells.of_below hB2' _ _ d12⟩, dB.keep (Cells.of_below hB2')⟩ ?_
        with_reducible refine x_one ?_
        refine l_call ?_ ((word_any y2 M hMz).mono ?_)
        · go_simp
        rintro e y3 ⟨rfl, hB3⟩
        have hB3' := hB2'.trans (hB3.mono hB2'.size)
        refine ⟨_, rfl, ?_⟩
        refine x_keep ⟨⟨(hB3'.cell (lt_of_heap HP3.out.wb)).trans dW, Cells.of_below hB3' _ _ d7, Cells.of_below hB3' _ _ d11, Cells.of_below hB3' _ _ d12⟩, dB.keep (Cells.of_below hB3')⟩ ?_
        with_reducible refine x_one ?_
        iterate 1 (with_reducible refine l_val (v := ?_) (w' := ?_) ?_ ?_; rotate_left 2; (go_simp; first | done | rfl | (constructor <;> rfl)))
        have hB4' : Below x3.drew.heap.size x3.drew (y3.alloc (.cells #[.string (mkS (writeW (toL bp))), .string (mkS (writeW (toL nm))), .string (mkS (writeW (toL M)))] 9)) := hB3'.alloc hB3'.size _
        have HP4 := Lib.hid (HP3.out.below hB4')
        refine x_keep ⟨⟨(blk_cells HP4.out.wb).1 0, Cells.of_below hB4' _ _ d7, Cells.of_below hB4' _ _ d11, Cells.of_below hB4' _ _ d12⟩, dB.keep (Cells.of_below hB4')⟩ ?_
        have hz4 := HP4.out.fr.size
        with_reducible refine x_three ?_
        refine wpList_append_own _ rfl (.tmp 34) (.tmp 46) 25 rfl x0.heap.size 9 iS (.string ByteArray.empty) 1 16 Tryz.underlying25 hiS hzS hsS hbS rfl (by omega) v3 (wr1 d 5 ++ [sI (offN d)]).length (txs (wr1 d 5 ++ [sI (offN d)])) ?_ HP4.out.own ⟨y3.heap.size, 0, none⟩ 3 3 [.string (mkS (writeW (toL bp))), .string (mkS (writeW (toL nm))), .string (mkS (writeW (toL M)))] ?_ rfl (fun j v hv => World.news_of_block (w := y3.alloc _) (heap_alloc_new y3 _) j v hv) (by intro u hu; simp only [List.mem_cons, List.not_mem_nil, or_false] at hu; rcases hu with rfl | rfl | rfl <;> rfl) (by rw [Hl3.out]; unfold maxLen; omega) (by rw [Hl3.out]; omega) hz4 ?_
        · simp [Act.eval, Act.put]
        · simp [Act.eval, Act.put]
        intro v4 wp hown4 hgrow4 _
        have hW4 : [Value.string (mkS (writeW (toL bp))), .string (mkS (writeW (toL nm))), .string (mkS (writeW (toL M)))] = txs [sW d.bypass, sW d.name, sW d.secret] := by
          rw [Hs.out.1, Hs.out.2.1, HM.out]
          rfl
        rw [hW4, show txs (wr1 d 5 ++ [sI (offN d)]) ++ txs [sW d.bypass, sW d.name, sW d.secret] = txs (wr1 d 5 ++ [sI (offN d)] ++ [sW d.bypass, sW d.name, sW d.secret]) by simp [txs], show (wr1 d 5 ++ [sI (offN d)]).length + 3 = (wr1 d 5 ++ [sI (offN d)] ++ [sW d.bypass, sW d.name, sW d.secret]).length from (app3 _ _ _ _).symm] at hown4
        have HP5 := Lib.hid (HP4.out.setW hgrow4 hown4)
        obtain ⟨A4, c4, rfl, _, _, _, _⟩ := own_form hown4
        have cP : wp.heap[bw]? = some (.cells #[v3] 25 (0, 0)) := (hgrow4.block bw (lt_of_heap HP4.out.wb) (fun e => by
          obtain ⟨_, cur, hcur⟩ := own_blk HP4.out.own bw e.symm
          rw [HP4.out.wb] at hcur
          cases hcur)).trans HP4.out.wb
        have cP0 : wp.cell? ⟨bw, 0, none⟩ = some v3 := (blk_cells cP).1 0
        have cP1 : wp.frozen? ⟨bw, 0, none⟩ = false := (blk_cells cP).2.1 0
        have Hl4 : Hid ((wr1 d 5 ++ [sI (offN d)] ++ [sW d.bypass, sW d.name, sW d.secret]).length = 10) := Lib.hid (by rw [app3, Hl3.out])
        rw [Hl4.out] at HP5
        clear hown4 hgrow4 hW4 hB1 hB1' hB2 hB2' hB3 hB3' hB4' d7 d11 d12 dB dW HP3 HP4 hz4
        with_reducible refine x_last ?_
        with_reducible refine x_three ?_
        with_reducible refine l_skip (w' := wp.setCell ⟨bw, 0, none⟩ (.slice A4 10 c4)) ?_ ?_
        · rw [Hl4.out]
          go_simp
        with_reducible refine x_last ?_
        with_reducible refine x_end ?_
        simp only [Act.put, List.setIfInBounds_toArray, List.set_cons_zero, List.set_cons_succ]
        generalize (wp.setCell ⟨bw, 0, none⟩ (.slice A4 10 c4)) = x4 at *
        have c6 : x4.cell? ⟨b, 6, none⟩ = some (.slice A2 n2 c2) := Hcell.out 6 _ _ HP5.out.fr rfl
        clear cP cP0 cP1
        go_wp2_with fail
        have hn2t : n2 = d.tags.length := by rw [Hn.out.2.1, ← HT.out, List.length_map]
        refine (put_any Hw0.out HP5.out (by rw [Hl4.out]; omega) (n2 : Int) (by omega) (by omega)).mono ?_
        rintro e x5 ⟨rfl, v5, hP6, _⟩
        have hw3 : wr1 d 5 ++ [sI (offN d)] ++ [sW d.bypass, sW d.name, sW d.secret] ++ [mkS (Lib.itoa (n2 : Int))] = wr3 d 0 := by
          rw [hn2t]
          unfold wr3 wr2
          rw [List.take_zero, List.map_nil, List.append_nil]
          rfl
        rw [hw3] at hP6
        obtain ⟨okB, hokB⟩ : ∃ okB, okB = (((nums d).take 5).all inN && inN (offN d) && decide (-4611686018427387904 ≤ (n2 : Int) ∧ (n2 : Int) ≤ 4611686018427387904)) := ⟨_, rfl⟩
        rw [← hokB] at hP6
        have HokB : Hid (okB = (((nums d).take 5).all inN && inN (offN d) && inN (d.tags.length : Int))) := Lib.hid (by rw [hokB, hn2t]; rfl)
        have HP6 := Lib.hid hP6
        have Hn2t := Lib.hid hn2t
        have c6' : x5.cell? ⟨b, 6, none⟩ = some (.slice A2 n2 c2) := Hcell.out 6 _ _ HP6.out.fr rfl
        clear hP6 hw3 hokB hn2t HP5 c6
        go_wp2_with fail
        go_loopw [58] (fun iv wr => FoR2 x0 bo bw okB d iv wr) (fun iv _ => n2 - (intOf iv).toNat)
        case atStart => exact ⟨0, v5, by omega, rfl, HP6.out⟩
        case round =>
          clear HP6 c6'
          obtain ⟨j, v, hj, rfl, hP⟩ := hrel
          have HP := Lib.hid hP
          clear hP
          rw [← Hn2t.out] at hj
          by_cases hlt : j < n2
          · obtain ⟨bt, ot, s, hA2, hs, hc⟩ := str_at (x := T) H20.out (i := j) (by rw [← Hn.out.2.1]; exact hlt)
            have htl : d.tags[j]? = some (toL s) := by rw [← HT.out, List.getElem?_map, hs]; rfl
            have Hm1 := Lib.hid (HT.out)
            have hsz : s.size ≤ 1048576 := by
              have := Hok.out.tags (toL s) (List.mem_of_getElem? htl)
              rwa [toL_len] at this
            subst hA2
            have hcw : wr.cell? ⟨bt, ot + j, none⟩ = some (.string s) := (HP.out.fr.cell (World.block_lt_of_cell? x0 _ hc)).trans hc
            have Htl := Lib.hid htl
            have hjI : (j : Int) < n2 := by omega
            have hjr : (0 : Int) ≤ j := by omega
            clear hs hc htl Hm1
            go_wp2_with fail
            have H7 := Lib.hid HP.out.drew
            have cW : wr.drew.cell? ⟨bw, 0, none⟩ = some v := (blk_cells H7.out.wb).1 0
            have Hl7 := Lib.hid (wr3_len d (j := j) (by rw [← Hn2t.out]; exact hj))
            clear HP hcw HD
            with_reducible refine g_mixx [(0, 0), (1, 1), (2, 2), (3, 2), (4, 3), (5, 3)] (fun w' => w'.cell? ⟨bw, 0, none⟩ = some v) 0 _ rfl (by kernel_rfl) (by kernel_rfl) ?_ ?_
            · exact cW
            intro OPS2 HD2
            simp only [mixX, nthO, consX]
            iterate 1 ((with_reducible refine x_val (v := ?_) ?_ ?_ ?_); rotate_left; (rintro _ h; go_simp; first | done | rfl | (constructor <;> rfl)); exact cW)
            iterate 1 ((with_reducible refine x_any (v := ?_) ?_ ?_); rotate_left; (rintro _; go_simp; first | done | rfl | (constructor <;> rfl)))
            with_reducible refine x_one ?_
            refine l_call ?_ ((word_any wr.drew s hsz).mono ?_)
            · go_simp
            rintro e y5 ⟨rfl, hB5⟩
            have H8 := Lib.hid (H7.out.below hB5)
            refine ⟨_, rfl, ?_⟩
            refine x_keep ((blk_cells H8.out.wb).1 0) ?_
            with_reducible refine x_one ?_
            iterate 1 (with_reducible refine l_val (v := ?_) (w' := ?_) ?_ ?_; rotate_left 2; (go_simp; first | done | rfl | (constructor <;> rfl)))
            have H9 := Lib.hid (H8.out.alloc (.cells #[.string (mkS (writeW (toL s)))] 9))
            have hz9 := H9.out.fr.size
            refine x_keep ((blk_cells H9.out.wb).1 0) ?_
            with_reducible refine x_three ?_
            refine wpList_append_own _ rfl (.tmp 62) (.tmp 65) 25 rfl x0.heap.size 9 iS (.string ByteArray.empty) 1 16 Tryz.underlying25 hiS hzS hsS hbS rfl (by omega) v (wr3 d j).length (txs (wr3 d j)) ?_ H9.out.own ⟨y5.heap.size, 0, none⟩ 1 1 [.string (mkS (writeW (toL s)))] ?_ rfl (fun j v hv => World.news_of_block (w := y5.alloc _) (heap_alloc_new y5 _) j v hv) (by intro u hu; rw [List.mem_singleton.1 hu]; rfl) (by rw [Hl7.out]; unfold maxLen; omega) (by rw [Hl7.out]; omega) hz9 ?_
            · simp [Act.eval, Act.put]
            · simp [Act.eval, Act.put]
            intro v9 wp9 hown9 hgrow9 _
            rw [show txs (wr3 d j) ++ [Value.string (mkS (writeW (toL s)))] = txs (wr3 d (j + 1)) by rw [wr3_next d Htl.out]; simp [txs, sW], show (wr3 d j).length + 1 = (wr3 d (j + 1)).length by rw [wr3_next d Htl.out]; simp] at hown9
            have HP10 := Lib.hid (H9.out.setW hgrow9 hown9)
            obtain ⟨A9, c9, rfl, _, _, _, _⟩ := own_form hown9
            have cP : wp9.heap[bw]? = some (.cells #[v] 25 (0, 0)) := (hgrow9.block bw (lt_of_heap H9.out.wb) (fun e => by
              obtain ⟨_, cur, hcur⟩ := own_blk H9.out.own bw e.symm
              rw [H9.out.wb] at hcur
              cases hcur)).trans H9.out.wb
            have cP0 : wp9.cell? ⟨bw, 0, none⟩ = some v := (blk_cells cP).1 0
            have cP1 : wp9.frozen? ⟨bw, 0, none⟩ = false := (blk_cells cP).2.1 0
            clear hown9 hgrow9 hB5 H7 H8 H9
            with_reducible refine x_last ?_
            with_reducible refine x_three ?_
            with_reducible refine l_skip (w' := wp9.setCell ⟨bw, 0, none⟩ (.slice A9 (wr3 d (j + 1)).length c9)) ?_ ?_
            · go_simp
            with_reducible refine x_last ?_
            with_reducible refine x_end ?_
            simp only [Act.put, List.setIfInBounds_toArray, List.set_cons_zero, List.set_cons_succ]
            have Hm : Hid (FoR2 x0 bo bw okB d (.int .i64 ((j : Int) + 1)) (wp9.setCell ⟨bw, 0, none⟩ (.slice A9 (wr3 d (j + 1)).length c9))) := Lib.hid ⟨j + 1, _, by rw [← Hn2t.out]; omega, by go_num, HP10.out⟩
            clear cP cP0 cP1 HD2 HP10
            go_wp2_with fail
            exact ⟨Hm.out, by simp [intOf]; omega⟩
          · have hjn : j = n2 := by omega
            subst hjn
            have HP7 : Hid (PutAt x0 bo bw (okB && (d.sizes.take 0).all inN) (wr4 d 0) v wr) := Lib.hid (by
              have h := HP.out
              rw [List.take_zero, List.all_nil, Bool.and_true]
              unfold wr4
              rw [List.take_zero, List.map_nil, List.append_nil, ← Hn2t.out]
              exact h)
            have c1' : wr.cell? ⟨b, 1, none⟩ = some (.slice A1 n1 c1) := Hcell.out 1 _ _ HP7.out.fr rfl
            clear HP hlt hj HD
            go_wp2_with fail
            go_loopw [71] (fun iv wr => FoR3 x0 bo bw okB d iv wr) (fun iv _ => n1 - (intOf iv).toNat)
            case atStart => exact ⟨0, v, by omega, rfl, HP7.out⟩
            case round =>
              clear HP7 c1'
              obtain ⟨k, v, hk, rfl, hP⟩ := hrel
              have HP := Lib.hid hP
              clear hP
              rw [← Hn.out.1] at hk
              by_cases hlt : k < n1
              · obtain ⟨bi, oi, n, hA1, hn, hc⟩ := iV_at (x := d.sizes) H10.out (i := k) (by rw [← Hn.out.1]; exact hlt)
                have hn64 := Hok.out.sizes n (List.mem_of_getElem? hn)
                subst hA1
                have hcw : wr.cell? ⟨bi, oi + k, none⟩ = some (.int .i64 n) := (HP.out.fr.cell (World.block_lt_of_cell? x0 _ hc)).trans hc
                have Hnn := Lib.hid hn
                have hjI : (k : Int) < n1 := by omega
                have hjr : (0 : Int) ≤ k := by omega
                have Hl8 := Lib.hid (wr4_len d (j := k) (by rw [← Hn.out.1]; exact hk))
                clear hn hc
                go_wp2_with fail
                refine (put_any Hw0.out HP.out (by rw [Hl8.out, ← Hn2t.out]; omega) n hn64.1 hn64.2).mono ?_
                rintro e x8 ⟨rfl, v8, hP8, _⟩
                have Hm : Hid (FoR3 x0 bo bw okB d (.int .i64 ((k : Int) + 1)) x8) := Lib.hid ⟨k + 1, v8, by rw [← Hn.out.1]; omega, by go_num, by rw [all_next Hnn.out, wr4_next d Hnn.out, ← Bool.and_assoc]; exact hP8⟩
                clear hP8 HP hcw
                go_wp2_with fail
                exact ⟨Hm.out, by simp [intOf]; omega⟩
              · have hkn : k = n1 := by omega
                have HokF : Hid ((okB && (d.sizes.take k).all inN) = optOk d) := Lib.hid (by
                  rw [HokB.out, show d.sizes.take k = d.sizes from List.take_of_length_le (by rw [← Hn.out.1, hkn]; exact Nat.le_refl _), optOk_eq d Hok.out.few])
                rw [show (wr4 d k) = wr4 d d.sizes.length by rw [hkn, Hn.out.1]] at HP
                have h := HP.out
                rw [HokF.out] at h
                have HP9 := Lib.hid h
                have Hopt := Lib.hid (opt_line Hok.out)
                have Hl9 := Lib.hid (wr4_len d (Nat.le_refl _))
                have Hfo : Hid (formatO d = if optOk d = true then limP ((optWords d).map writeW) else ([], 6)) := Lib.hid rfl
                have ce : wr.cell? ⟨bo, 0, none⟩ = some (.bool (optOk d)) := (blk_cells HP9.out.ob).1 0
                have ce2 : wr.cell? ⟨bw, 0, none⟩ = some v := (blk_cells HP9.out.wb).1 0
                have HBe := Lib.hid (HB0.out.trans (HP9.out.fr.mono HB0.out.size))
                clear h HP hlt HokF
                subst hkn
                rcases Bool.eq_false_or_eq_true (optOk d) with hokd | hokd
                · have Hokd := Lib.hid hokd
                  rw [hokd] at ce
                  obtain ⟨Ae, ce', rfl, hSe⟩ := row_sl HP9.out.own
                  have HSe := Lib.hid hSe
                  clear hSe hokd
                  go_wp2_with fail
                  refine (limited_any wr (wr4 d d.sizes.length) _ _ HSe.out (by rw [wr4_all]; have := Hopt.out; omega) (by rw [Hl9.out]; have := Hok.out.few; have := Hok.out.few2; omega)).mono ?_
                  rintro e w9 ⟨rfl, hB9⟩
                  rw [wr4_all]
                  have HB9 := Lib.hid (HBe.out.trans (hB9.mono HBe.out.size))
                  have HF : Hid (formatO d = limP ((optWords d).map writeW)) := Lib.hid (by rw [Hfo.out, if_pos Hokd.out])
                  obtain ⟨R, hR⟩ : ∃ R, R = limP ((optWords d).map writeW) := ⟨_, rfl⟩
                  rw [← hR] at HF ⊢
                  clear hB9 hR
                  go_wp2_with fail
                  exact bodyPost_ret (results_tmp2 rfl _ _ _) rfl ⟨by rw [HF.out]; rfl, HB9.out⟩
                · have HF : Hid (formatO d = ([], 6)) := Lib.hid (by rw [Hfo.out, if_neg (by rw [hokd]; decide)])
                  rw [hokd] at ce
                  clear hokd
                  go_wp2_with fail
                  exact bodyPost_ret (results_tmp2 rfl _ _ _) rfl ⟨by rw [HF.out]; rfl, HBe.out⟩
      · subst hof
        have Hof : Hid (offN d = 0) := Lib.hid (by unfold offN; rw [← Hs.out.2.2]; rfl)
        go_wp2_with fail
        refine (put_any Hw0.out HP.out (by rw [Hl1.out]; omega) 0 (by omega) (by omega)).mono ?_
        rintro e x3 ⟨rfl, v3, hP3, _⟩
        rw [show decide (-4611686018427387904 ≤ (0 : Int) ∧ (0 : Int) ≤ 4611686018427387904) = inN (offN d) from by rw [Hof.out]; rfl, show [mkS (Lib.itoa 0)] = [sI (offN d)] from by rw [Hof.out]; rfl] at hP3
        have HP3 := Lib.hid hP3.drew
        have d7 : x3.drew.cell? ⟨b, 7, none⟩ = some (.string bp) := Hcell.out 7 _ _ HP3.out.fr rfl
        have d11 : x3.drew.cell? ⟨b, 11, none⟩ = some (.string nm) := Hcell.out 11 _ _ HP3.out.fr rfl
        have d12 : x3.drew.cell? ⟨b, 12, none⟩ = some (.slice A3 n3 c3) := Hcell.out 12 _ _ HP3.out.fr rfl
        have dB : Bs x3.drew A3 c3 d.secret := H30.out.keep (Cells.of_below HP3.out.fr)
        have dW : x3.drew.cell? ⟨bw, 0, none⟩ = some v3 := (blk_cells HP3.out.wb).1 0
        have Hl3 : Hid ((wr1 d 5 ++ [sI (offN d)]).length = 7) := Lib.hid (by rw [List.length_append, Hl1.out]; rfl)
        clear hP3 HP c8 Hl1
        go_wp2_with fail
        with_reducible refine g_mixx [(0, 0), (1, 0), (2, 0), (3, 0), (5, 0), (6, 0), (8, 0), (9, 0), (10, 0), (4, 2), (7, 2), (11, 2), (12, 2), (13, 3), (14, 3)] (fun w' => (w'.cell? ⟨bw, 0, none⟩ = some v3 ∧ w'.cell? ⟨b, 7, none⟩ = some (.string bp) ∧ w'.cell? ⟨b, 11, none⟩ = some (.string nm) ∧ w'.cell? ⟨b, 12, none⟩ = some (.slice A3 n3 c3)) ∧ Bs w' A3 c3 d.secret) 0 _ rfl (by kernel_rfl) (by kernel_rfl) ?_ ?_
        · exact ⟨⟨dW, d7, d11, d12⟩, dB⟩
        intro OPS HD
        simp only [mixX, nthO, consX]
        iterate 8 ((with_reducible refine x_val (v := ?_) ?_ ?_ ?_); rotate_left; (rintro _ ⟨⟨h0, h1, h2, h3⟩, h4⟩; go_simp; first | done | rfl | (constructor <;> rfl)); exact ⟨⟨dW, d7, d11, d12⟩, dB⟩)
        refine x_val (v := .string M) (fun wy hy => ?_) ⟨⟨dW, d7, d11, d12⟩, dB⟩ ?_
        · have hq := Hcm.out wy hy.2
          go_simp
        with_reducible refine x_one ?_
        refine l_call ?_ ((word_any x3.drew bp hbz).mono ?_)
        · go_simp
        rintro e y1 ⟨rfl, hB1⟩
        have hB1' : Below x3.drew.heap.size x3.drew y1 := hB1
        refine ⟨_, rfl, ?_⟩
        refine x_keep ⟨⟨(hB1'.cell (lt_of_heap HP3.out.wb)).trans dW, Cells.of_below hB1' _ _ d7, Cells.of_below hB1' _ _ d11, Cells.of_below hB1' _ _ d12⟩, dB.keep (Cells.of_below hB1')⟩ ?_
        with_reducible refine x_one ?_
        refine l_call ?_ ((word_any y1 nm hnz).mono ?_)
        · go_simp
        rintro e y2 ⟨rfl, hB2⟩
        have hB2' := hB1'.trans (hB2.mono hB1'.size)
        refine ⟨_, rfl, ?_⟩
        refine x_keep ⟨⟨(hB2'.cell (lt_of_heap HP3.out.wb)).trans dW, Cells.of_below hB2' _ _ d7, Cells.of_below hB2' _ _ d11, Cells.of_below hB2' _ _ d12⟩, dB.keep (Cells.of_below hB2')⟩ ?_
        with_reducible refine x_one ?_
        refine l_call ?_ ((word_any y2 M hMz).mono ?_)
        · go_simp
        rintro e y3 ⟨rfl, hB3⟩
        have hB3' := hB2'.trans (hB3.mono hB2'.size)
        refine ⟨_, rfl, ?_⟩
        refine x_keep ⟨⟨(hB3'.cell (lt_of_heap HP3.out.wb)).trans dW, Cells.of_below hB3' _ _ d7, Cells.of_below hB3' _ _ d11, Cells.of_below hB3' _ _ d12⟩, dB.keep (Cells.of_below hB3')⟩ ?_
        with_reducible refine x_one ?_
        iterate 1 (with_reducible refine l_val (v := ?_) (w' := ?_) ?_ ?_; rotate_left 2; (go_simp; first | done | rfl | (constructor <;> rfl)))
        have hB4' : Below x3.drew.heap.size x3.drew (y3.alloc (.cells #[.string (mkS (writeW (toL bp))), .string (mkS (writeW (toL nm))), .string (mkS (writeW (toL M)))] 9)) := hB3'.alloc hB3'.size _
        have HP4 := Lib.hid (HP3.out.below hB4')
        refine x_keep ⟨⟨(blk_cells HP4.out.wb).1 0, Cells.of_below hB4' _ _ d7, Cells.of_below hB4' _ _ d11, Cells.of_below hB4' _ _ d12⟩, dB.keep (Cells.of_below hB4')⟩ ?_
        have hz4 := HP4.out.fr.size
        with_reducible refine x_three ?_
        refine wpList_append_own _ rfl (.tmp 34) (.tmp 46) 25 rfl x0.heap.size 9 iS (.string ByteArray.empty) 1 16 Tryz.underlying25 hiS hzS hsS hbS rfl (by omega) v3 (wr1 d 5 ++ [sI (offN d)]).length (txs (wr1 d 5 ++ [sI (offN d)])) ?_ HP4.out.own ⟨y3.heap.size, 0, none⟩ 3 3 [.string (mkS (writeW (toL bp))), .string (mkS (writeW (toL nm))), .string (mkS (writeW (toL M)))] ?_ rfl (fun j v hv => World.news_of_block (w := y3.alloc _) (heap_alloc_new y3 _) j v hv) (by intro u hu; simp only [List.mem_cons, List.not_mem_nil, or_false] at hu; rcases hu with rfl | rfl | rfl <;> rfl) (by rw [Hl3.out]; unfold maxLen; omega) (by rw [Hl3.out]; omega) hz4 ?_
        · simp [Act.eval, Act.put]
        · simp [Act.eval, Act.put]
        intro v4 wp hown4 hgrow4 _
        have hW4 : [Value.string (mkS (writeW (toL bp))), .string (mkS (writeW (toL nm))), .string (mkS (writeW (toL M)))] = txs [sW d.bypass, sW d.name, sW d.secret] := by
          rw [Hs.out.1, Hs.out.2.1, HM.out]
          rfl
        rw [hW4, show txs (wr1 d 5 ++ [sI (offN d)]) ++ txs [sW d.bypass, sW d.name, sW d.secret] = txs (wr1 d 5 ++ [sI (offN d)] ++ [sW d.bypass, sW d.name, sW d.secret]) by simp [txs], show (wr1 d 5 ++ [sI (offN d)]).length + 3 = (wr1 d 5 ++ [sI (offN d)] ++ [sW d.bypass, sW d.name, sW d.secret]).length from (app3 _ _ _ _).symm] at hown4
        have HP5 := Lib.hid (HP4.out.setW hgrow4 hown4)
        obtain ⟨A4, c4, rfl, _, _, _, _⟩ := own_form hown4
        have cP : wp.heap[bw]? = some (.cells #[v3] 25 (0, 0)) := (hgrow4.block bw (lt_of_heap HP4.out.wb) (fun e => by
          obtain ⟨_, cur, hcur⟩ := own_blk HP4.out.own bw e.symm
          rw [HP4.out.wb] at hcur
          cases hcur)).trans HP4.out.wb
        have cP0 : wp.cell? ⟨bw, 0, none⟩ = some v3 := (blk_cells cP).1 0
        have cP1 : wp.frozen? ⟨bw, 0, none⟩ = false := (blk_cells cP).2.1 0
        have Hl4 : Hid ((wr1 d 5 ++ [sI (offN d)] ++ [sW d.bypass, sW d.name, sW d.secret]).length = 10) := Lib.hid (by rw [app3, Hl3.out])
        rw [Hl4.out] at HP5
        clear hown4 hgrow4 hW4 hB1 hB1' hB2 hB2' hB3 hB3' hB4' d7 d11 d12 dB dW HP3 HP4 hz4
        with_reducible refine x_last ?_
        with_reducible refine x_three ?_
        with_reducible refine l_skip (w' := wp.setCell ⟨bw, 0, none⟩ (.slice A4 10 c4)) ?_ ?_
        · rw [Hl4.out]
          go_simp
        with_reducible refine x_last ?_
        with_reducible refine x_end ?_
        simp only [Act.put, List.setIfInBounds_toArray, List.set_cons_zero, List.set_cons_succ]
        generalize (wp.setCell ⟨bw, 0, none⟩ (.slice A4 10 c4)) = x4 at *
        have c6 : x4.cell? ⟨b, 6, none⟩ = some (.slice A2 n2 c2) := Hcell.out 6 _ _ HP5.out.fr rfl
        clear cP cP0 cP1
        go_wp2_with fail
        have hn2t : n2 = d.tags.length := by rw [Hn.out.2.1, ← HT.out, List.length_map]
        refine (put_any Hw0.out HP5.out (by rw [Hl4.out]; omega) (n2 : Int) (by omega) (by omega)).mono ?_
        rintro e x5 ⟨rfl, v5, hP6, _⟩
        have hw3 : wr1 d 5 ++ [sI (offN d)] ++ [sW d.bypass, sW d.name, sW d.secret] ++ [mkS (Lib.itoa (n2 : Int))] = wr3 d 0 := by
          rw [hn2t]
          unfold wr3 wr2
          rw [List.take_zero, List.map_nil, List.append_nil]
          rfl
        rw [hw3] at hP6
        obtain ⟨okB, hokB⟩ : ∃ okB, okB = (((nums d).take 5).all inN && inN (offN d) && decide (-4611686018427387904 ≤ (n2 : Int) ∧ (n2 : Int) ≤ 4611686018427387904)) := ⟨_, rfl⟩
        rw [← hokB] at hP6
        have HokB : Hid (okB = (((nums d).take 5).all inN && inN (offN d) && inN (d.tags.length : Int))) := Lib.hid (by rw [hokB, hn2t]; rfl)
        have HP6 := Lib.hid hP6
        have Hn2t := Lib.hid hn2t
        have c6' : x5.cell? ⟨b, 6, none⟩ = some (.slice A2 n2 c2) := Hcell.out 6 _ _ HP6.out.fr rfl
        clear hP6 hw3 hokB hn2t HP5 c6
        go_wp2_with fail
        go_loopw [58] (fun iv wr => FoR2 x0 bo bw okB d iv wr) (fun iv _ => n2 - (intOf iv).toNat)
        case atStart => exact ⟨0, v5, by omega, rfl, HP6.out⟩
        case round =>
          clear HP6 c6'
          obtain ⟨j, v, hj, rfl, hP⟩ := hrel
          have HP := Lib.hid hP
          clear hP
          rw [← Hn2t.out] at hj
          by_cases hlt : j < n2
          · obtain ⟨bt, ot, s, hA2, hs, hc⟩ := str_at (x := T) H20.out (i := j) (by rw [← Hn.out.2.1]; exact hlt)
            have htl : d.tags[j]? = some (toL s) := by rw [← HT.out, List.getElem?_map, hs]; rfl
            have Hm1 := Lib.hid (HT.out)
            have hsz : s.size ≤ 1048576 := by
              have := Hok.out.tags (toL s) (List.mem_of_getElem? htl)
              rwa [toL_len] at this
            subst hA2
            have hcw : wr.cell? ⟨bt, ot + j, none⟩ = some (.string s) := (HP.out.fr.cell (World.block_lt_of_cell? x0 _ hc)).trans hc
            have Htl := Lib.hid htl
            have hjI : (j : Int) < n2 := by omega
            have hjr : (0 : Int) ≤ j := by omega
            clear hs hc htl Hm1
            go_wp2_with fail
            have H7 := Lib.hid HP.out.drew
            have cW : wr.drew.cell? ⟨bw, 0, none⟩ = some v := (blk_cells H7.out.wb).1 0
            have Hl7 := Lib.hid (wr3_len d (j := j) (by rw [← Hn2t.out]; exact hj))
            clear HP hcw HD
            with_reducible refine g_mixx [(0, 0), (1, 1), (2, 2), (3, 2), (4, 3), (5, 3)] (fun w' => w'.cell? ⟨bw, 0, none⟩ = some v) 0 _ rfl (by kernel_rfl) (by kernel_rfl) ?_ ?_
            · exact cW
            intro OPS2 HD2
            simp only [mixX, nthO, consX]
            iterate 1 ((with_reducible refine x_val (v := ?_) ?_ ?_ ?_); rotate_left; (rintro _ h; go_simp; first | done | rfl | (constructor <;> rfl)); exact cW)
            iterate 1 ((with_reducible refine x_any (v := ?_) ?_ ?_); rotate_left; (rintro _; go_simp; first | done | rfl | (constructor <;> rfl)))
            with_reducible refine x_one ?_
            refine l_call ?_ ((word_any wr.drew s hsz).mono ?_)
            · go_simp
            rintro e y5 ⟨rfl, hB5⟩
            have H8 := Lib.hid (H7.out.below hB5)
            refine ⟨_, rfl, ?_⟩
            refine x_keep ((blk_cells H8.out.wb).1 0) ?_
            with_reducible refine x_one ?_
            iterate 1 (with_reducible refine l_val (v := ?_) (w' := ?_) ?_ ?_; rotate_left 2; (go_simp; first | done | rfl | (constructor <;> rfl)))
            have H9 := Lib.hid (H8.out.alloc (.cells #[.string (mkS (writeW (toL s)))] 9))
            have hz9 := H9.out.fr.size
            refine x_keep ((blk_cells H9.out.wb).1 0) ?_
            with_reducible refine x_three ?_
            refine wpList_append_own _ rfl (.tmp 62) (.tmp 65) 25 rfl x0.heap.size 9 iS (.string ByteArray.empty) 1 16 Tryz.underlying25 hiS hzS hsS hbS rfl (by omega) v (wr3 d j).length (txs (wr3 d j)) ?_ H9.out.own ⟨y5.heap.size, 0, none⟩ 1 1 [.string (mkS (writeW (toL s)))] ?_ rfl (fun j v hv => World.news_of_block (w := y5.alloc _) (heap_alloc_new y5 _) j v hv) (by intro u hu; rw [List.mem_singleton.1 hu]; rfl) (by rw [Hl7.out]; unfold maxLen; omega) (by rw [Hl7.out]; omega) hz9 ?_
            · simp [Act.eval, Act.put]
            · simp [Act.eval, Act.put]
            intro v9 wp9 hown9 hgrow9 _
            rw [show txs (wr3 d j) ++ [Value.string (mkS (writeW (toL s)))] = txs (wr3 d (j + 1)) by rw [wr3_next d Htl.out]; simp [txs, sW], show (wr3 d j).length + 1 = (wr3 d (j + 1)).length by rw [wr3_next d Htl.out]; simp] at hown9
            have HP10 := Lib.hid (H9.out.setW hgrow9 hown9)
            obtain ⟨A9, c9, rfl, _, _, _, _⟩ := own_form hown9
            have cP : wp9.heap[bw]? = some (.cells #[v] 25 (0, 0)) := (hgrow9.block bw (lt_of_heap H9.out.wb) (fun e => by
              obtain ⟨_, cur, hcur⟩ := own_blk H9.out.own bw e.symm
              rw [H9.out.wb] at hcur
              cases hcur)).trans H9.out.wb
            have cP0 : wp9.cell? ⟨bw, 0, none⟩ = some v := (blk_cells cP).1 0
            have cP1 : wp9.frozen? ⟨bw, 0, none⟩ = false := (blk_cells cP).2.1 0
            clear hown9 hgrow9 hB5 H7 H8 H9
            with_reducible refine x_last ?_
            with_reducible refine x_three ?_
            with_reducible refine l_skip (w' := wp9.setCell ⟨bw, 0, none⟩ (.slice A9 (wr3 d (j + 1)).length c9)) ?_ ?_
            · go_simp
            with_reducible refine x_last ?_
            with_reducible refine x_end ?_
            simp only [Act.put, List.setIfInBounds_toArray, List.set_cons_zero, List.set_cons_succ]
            have Hm : Hid (FoR2 x0 bo bw okB d (.int .i64 ((j : Int) + 1)) (wp9.setCell ⟨bw, 0, none⟩ (.slice A9 (wr3 d (j + 1)).length c9))) := Lib.hid ⟨j + 1, _, by rw [← Hn2t.out]; omega, by go_num, HP10.out⟩
            clear cP cP0 cP1 HD2 HP10
            go_wp2_with fail
            exact ⟨Hm.out, by simp [intOf]; omega⟩
          · have hjn : j = n2 := by omega
            subst hjn
            have HP7 : Hid (PutAt x0 bo bw (okB && (d.sizes.take 0).all inN) (wr4 d 0) v wr) := Lib.hid (by
              have h := HP.out
              rw [List.take_zero, List.all_nil, Bool.and_true]
              unfold wr4
              rw [List.take_zero, List.map_nil, List.append_nil, ← Hn2t.out]
              exact h)
            have c1' : wr.cell? ⟨b, 1, none⟩ = some (.slice A1 n1 c1) := Hcell.out 1 _ _ HP7.out.fr rfl
            clear HP hlt hj HD
            go_wp2_with fail
            go_loopw [71] (fun iv wr => FoR3 x0 bo bw okB d iv wr) (fun iv _ => n1 - (intOf iv).toNat)
            case atStart => exact ⟨0, v, by omega, rfl, HP7.out⟩
            case round =>
              clear HP7 c1'
              obtain ⟨k, v, hk, rfl, hP⟩ := hrel
              have HP := Lib.hid hP
              clear hP
              rw [← Hn.out.1] at hk
              by_cases hlt : k < n1
              · obtain ⟨bi, oi, n, hA1, hn, hc⟩ := iV_at (x := d.sizes) H10.out (i := k) (by rw [← Hn.out.1]; exact hlt)
                have hn64 := Hok.out.sizes n (List.mem_of_getElem? hn)
                subst hA1
                have hcw : wr.cell? ⟨bi, oi + k, none⟩ = some (.int .i64 n) := (HP.out.fr.cell (World.block_lt_of_cell? x0 _ hc)).trans hc
                have Hnn := Lib.hid hn
                have hjI : (k : Int) < n1 := by omega
                have hjr : (0 : Int) ≤ k := by omega
                have Hl8 := Lib.hid (wr4_len d (j := k) (by rw [← Hn.out.1]; exact hk))
                clear hn hc
                go_wp2_with fail
                refine (put_any Hw0.out HP.out (by rw [Hl8.out, ← Hn2t.out]; omega) n hn64.1 hn64.2).mono ?_
                rintro e x8 ⟨rfl, v8, hP8, _⟩
                have Hm : Hid (FoR3 x0 bo bw okB d (.int .i64 ((k : Int) + 1)) x8) := Lib.hid ⟨k + 1, v8, by rw [← Hn.out.1]; omega, by go_num, by rw [all_next Hnn.out, wr4_next d Hnn.out, ← Bool.and_assoc]; exact hP8⟩
                clear hP8 HP hcw
                go_wp2_with fail
                exact ⟨Hm.out, by simp [intOf]; omega⟩
              · have hkn : k = n1 := by omega
                have HokF : Hid ((okB && (d.sizes.take k).all inN) = optOk d) := Lib.hid (by
                  rw [HokB.out, show d.sizes.take k = d.sizes from List.take_of_length_le (by rw [← Hn.out.1, hkn]; exact Nat.le_refl _), optOk_eq d Hok.out.few])
                rw [show (wr4 d k) = wr4 d d.sizes.length by rw [hkn, Hn.out.1]] at HP
                have h := HP.out
                rw [HokF.out] at h
                have HP9 := Lib.hid h
                have Hopt := Lib.hid (opt_line Hok.out)
                have Hl9 := Lib.hid (wr4_len d (Nat.le_refl _))
                have Hfo : Hid (formatO d = if optOk d = true then limP ((optWords d).map writeW) else ([], 6)) := Lib.hid rfl
                have ce : wr.cell? ⟨bo, 0, none⟩ = some (.bool (optOk d)) := (blk_cells HP9.out.ob).1 0
                have ce2 : wr.cell? ⟨bw, 0, none⟩ = some v := (blk_cells HP9.out.wb).1 0
                have HBe := Lib.hid (HB0.out.trans (HP9.out.fr.mono HB0.out.size))
                clear h HP hlt HokF
                subst hkn
                rcases Bool.eq_false_or_eq_true (optOk d) with hokd | hokd
                · have Hokd := Lib.hid hokd
                  rw [hokd] at ce
                  obtain ⟨Ae, ce', rfl, hSe⟩ := row_sl HP9.out.own
                  have HSe := Lib.hid hSe
                  clear hSe hokd
                  go_wp2_with fail
                  refine (limited_any wr (wr4 d d.sizes.length) _ _ HSe.out (by rw [wr4_all]; have := Hopt.out; omega) (by rw [Hl9.out]; have := Hok.out.few; have := Hok.out.few2; omega)).mono ?_
                  rintro e w9 ⟨rfl, hB9⟩
                  rw [wr4_all]
                  have HB9 := Lib.hid (HBe.out.trans (hB9.mono HBe.out.size))
                  have HF : Hid (formatO d = limP ((optWords d).map writeW)) := Lib.hid (by rw [Hfo.out, if_pos Hokd.out])
                  obtain ⟨R, hR⟩ : ∃ R, R = limP ((optWords d).map writeW) := ⟨_, rfl⟩
                  rw [← hR] at HF ⊢
                  clear hB9 hR
                  go_wp2_with fail
                  exact bodyPost_ret (results_tmp2 rfl _ _ _) rfl ⟨by rw [HF.out]; rfl, HB9.out⟩
                · have HF : Hid (formatO d = ([], 6)) := Lib.hid (by rw [Hfo.out, if_neg (by rw [hokd]; decide)])
                  rw [hokd] at ce
                  clear hokd
                  go_wp2_with fail
                  exact bodyPost_ret (results_tmp2 rfl _ _ _) rfl ⟨by rw [HF.out]; rfl, HBe.out⟩
end Go.Proofs.YtlljjddgbilipaaGreatDoor
