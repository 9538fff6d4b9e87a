/-
  text.FormatOpts' put: a number, written behind the words; whether all were within.
-/
import Derived.Test.YtlljjddgbilipaaGreatDoorTxOp0
import Derived.Test.YtlljjddgbilipaaGreatDoorTxLw
namespace Go.Proofs.YtlljjddgbilipaaGreatDoor
open Go.RowKit Go.Maps

set_option linter.unusedSimpArgs false

attribute [local go_sem] lt1 lt2 lt3 lt4 lt5 lt6

/-- what put has written: the words, and whether all numbers were within -/
structure PutAt (x0 : World) (bo bw : Nat) (ok : Bool) (L : List ByteArray) (v : Value) (w : World) : Prop where
  ob : w.heap[bo]? = some (.cells #[.bool ok] 4 (0, 0))
  wb : w.heap[bw]? = some (.cells #[v] 25 (0, 0))
  own : w.ownsRow x0.heap.size 9 1 v L.length (txs L)
  fr : Below x0.heap.size x0 w
  lo : x0.heap.size ≤ bo
  lw : x0.heap.size ≤ bw
theorem PutAt.ne {x0 : World} {bo bw : Nat} {ok : Bool} {L : List ByteArray} {v : Value} {w : World} (h : PutAt x0 bo bw ok L v w) : bo ≠ bw := by
  rintro rfl
  have h1 := h.ob
  rw [h.wb] at h1
  cases h1
theorem PutAt.below {x0 : World} {bo bw : Nat} {ok : Bool} {L : List ByteArray} {v : Value} {w w' : World} (h : PutAt x0 bo bw ok L v w) (hb : Below w.heap.size w w') : PutAt x0 bo bw ok L v w' :=
  ⟨(hb.block _ (lt_of_heap h.ob)).trans h.ob, (hb.block _ (lt_of_heap h.wb)).trans h.wb, own_keep h.own fun q _ hq => (hb.block q (lt_of_heap hq)).trans hq, h.fr.trans (hb.mono h.fr.size), h.lo, h.lw⟩
theorem PutAt.drew {x0 : World} {bo bw : Nat} {ok : Bool} {L : List ByteArray} {v : Value} {w : World} (h : PutAt x0 bo bw ok L v w) : PutAt x0 bo bw ok L v w.drew :=
  h.below ⟨rfl, rfl, rfl, Nat.le_refl _, fun _ _ => rfl⟩
/-- the flag is set -/
theorem PutAt.setOk {x0 : World} {bo bw : Nat} {ok : Bool} {L : List ByteArray} {v : Value} {w : World} (h : PutAt x0 bo bw ok L v w) (b : Bool) : PutAt x0 bo bw b L v (w.setCell ⟨bo, 0, none⟩ (.bool b)) := by
  have hf := Fr.setCell [bo] w ⟨bo, 0, none⟩ (.bool b) (by simp)
  have hne := h.ne
  refine ⟨by rw [heap_setCell_at h.ob]; rfl, (hf.block bw (lt_of_heap h.wb) (by simp; exact fun e => hne e.symm)).trans h.wb, own_keep h.own fun q c hq => ?_, h.fr.trans (hf.below h.fr.size (by intro k hk; rw [List.mem_singleton.1 hk]; exact h.lo)), h.lo, h.lw⟩
  refine (hf.block q (lt_of_heap hq) (fun hh => ?_)).trans hq
  rw [List.mem_singleton.1 hh, h.ob] at hq
  cases hq
/-- the words behind an append are put back -/
theorem PutAt.setW {x0 : World} {bo bw : Nat} {ok : Bool} {L : List ByteArray} {v : Value} {w : World} (h : PutAt x0 bo bw ok L v w) {L' : List ByteArray} {v' : Value} {w' : World} (hg : w.grownBy w' v.ownBlock) (ho : w'.ownsRow x0.heap.size 9 1 v' L'.length (txs L')) : PutAt x0 bo bw ok L' v' (w'.setCell ⟨bw, 0, none⟩ v') := by
  have hne := h.ne
  have hb : ∀ q, q < w.heap.size → (∀ b, v.ownBlock = some b → q ≠ b) → w'.heap[q]? = w.heap[q]? := fun q hq hn => hg.block q hq (fun e => hn q e.symm rfl)
  have h1 : w'.heap[bo]? = some (.cells #[.bool ok] 4 (0, 0)) := (hb bo (lt_of_heap h.ob) (fun b hb e => by
    obtain ⟨_, cur, hcur⟩ := own_blk h.own b hb
    rw [← e, h.ob] at hcur
    cases hcur)).trans h.ob
  have h2 : w'.heap[bw]? = some (.cells #[v] 25 (0, 0)) := (hb bw (lt_of_heap h.wb) (fun b hb e => by
    obtain ⟨_, cur, hcur⟩ := own_blk h.own b hb
    rw [← e, h.wb] at hcur
    cases hcur)).trans h.wb
  have hB : Below x0.heap.size x0 w' := h.fr.grown hg h.fr.size (fun q hq => (own_blk h.own q hq).1)
  have hf := Fr.setCell [bw] w' ⟨bw, 0, none⟩ v' (by simp)
  refine ⟨(hf.block bo (lt_of_heap h1) (by simp; exact hne)).trans h1, by rw [heap_setCell_at h2]; rfl, own_keep ho fun q c hq => ?_, hB.trans (hf.below hB.size (by intro k hk; rw [List.mem_singleton.1 hk]; exact h.lw)), h.lo, h.lw⟩
  refine (hf.block q (lt_of_heap hq) (fun hh => ?_)).trans hq
  rw [List.mem_singleton.1 hh, h2] at hq
  cases hq
theorem PutAt.alloc {x0 : World} {bo bw : Nat} {ok : Bool} {L : List ByteArray} {v : Value} {w : World} (h : PutAt x0 bo bw ok L v w) (o : Obj) : PutAt x0 bo bw ok L v (w.alloc o) := h.below ((Below.refl w.heap.size w).alloc (Nat.le_refl _) o)
/-- blocks of other types stay -/
def Oth (w w' : World) : Prop := ∀ (k : Nat) (cs : Array Value) (t : TypeId) (fr : Nat × Nat), w.heap[k]? = some (.cells cs t fr) → t ≠ 9 → t ≠ 25 → t ≠ 4 → w'.heap[k]? = some (.cells cs t fr)
theorem Oth.trans {a b c : World} (h : Oth a b) (k : Oth b c) : Oth a c := fun i cs t fr hi h1 h2 h3 => k i cs t fr (h i cs t fr hi h1 h2 h3) h1 h2 h3
theorem Oth.of_below {w w' : World} (h : Below w.heap.size w w') : Oth w w' := fun k _ _ _ hk _ _ _ => (h.block k (lt_of_heap hk)).trans hk
theorem Oth.refl (w : World) : Oth w w := fun _ _ _ _ h _ _ _ => h
theorem PutAt.oth_ok {x0 : World} {bo bw : Nat} {ok : Bool} {L : List ByteArray} {v : Value} {w : World} (h : PutAt x0 bo bw ok L v w) (b : Bool) : Oth w (w.setCell ⟨bo, 0, none⟩ (.bool b)) := fun k cs t fr hk _ _ h3 => by
  refine ((Fr.setCell [bo] w ⟨bo, 0, none⟩ (.bool b) (by simp)).block k (lt_of_heap hk) (fun hh => ?_)).trans hk
  rw [List.mem_singleton.1 hh, h.ob] at hk
  cases hk
  exact h3 rfl
theorem PutAt.oth_w {x0 : World} {bo bw : Nat} {ok : Bool} {L : List ByteArray} {v : Value} {w : World} (h : PutAt x0 bo bw ok L v w) {v' : Value} {w' : World} (hg : w.grownBy w' v.ownBlock) : Oth w (w'.setCell ⟨bw, 0, none⟩ v') := fun k cs t fr hk h1 h2 _ => by
  have e : w'.heap[k]? = some (.cells cs t fr) := (hg.block k (lt_of_heap hk) (fun e => by
    obtain ⟨_, cur, hcur⟩ := own_blk h.own k e.symm
    rw [hk] at hcur
    cases hcur
    exact h1 rfl)).trans hk
  refine ((Fr.setCell [bw] w' ⟨bw, 0, none⟩ v' (by simp)).block k (lt_of_heap e) (fun hh => ?_)).trans e
  rw [List.mem_singleton.1 hh, h.wb] at hk
  cases hk
  exact h2 rfl
def PutPost (w : World) (x0 : World) (bo bw : Nat) (ok : Bool) (L : List ByteArray) (e : Ending) (w' : World) : Prop := e = .returned (.tuple #[]) ∧ ∃ v', PutAt x0 bo bw ok L v' w' ∧ Oth w w'
set_option maxRecDepth 100000 in
set_option maxHeartbeats 8000000 in
theorem put_any {x0 : World} (hw : Lw x0) {bo bw : Nat} {ok : Bool} {L : List ByteArray} {v : Value} {w : World} (h : PutAt x0 bo bw ok L v w) (hL : L.length ≤ 4194304) (n : Int) (h0 : -9223372036854775808 ≤ n) (h1 : n ≤ 9223372036854775807) :
    Calls Tryz.prog 21 #[.int .i64 n, .pointer (some ⟨bo, 0, none⟩), .pointer (some ⟨bw, 0, none⟩)] w (PutPost w x0 bo bw (ok && decide (-4611686018427387904 ≤ n ∧ n ≤ 4611686018427387904)) (L ++ [mkS (Lib.itoa n)])) := by
  have Hw := Lib.hid hw
  have H := Lib.hid h
  have c0 : w.cell? ⟨bo, 0, none⟩ = some (.bool ok) := (blk_cells h.ob).1 0
  have c1 : w.frozen? ⟨bo, 0, none⟩ = false := (blk_cells h.ob).2.1 0
  obtain ⟨iS, hiS, hzS, hsS, hbS⟩ := info_parts infoStr1
  clear h hw
  have HS : ∀ (b : Bool), PutAt x0 bo bw b L v (w.setCell ⟨bo, 0, none⟩ (.bool b)) := fun b => H.out.setOk b
  have HT : ∀ (b : Bool), Oth w (w.setCell ⟨bo, 0, none⟩ (.bool b)) := fun b => H.out.oth_ok b
  have hin := within_any n w
  obtain ⟨d, hd⟩ : ∃ d, d = decide (-4611686018427387904 ≤ n ∧ n ≤ 4611686018427387904) := ⟨_, rfl⟩
  rw [← hd] at hin ⊢
  clear hd
  have hap0 : ∀ (ok : Bool) (y1 y : World), PutAt x0 bo bw ok L v y → ∀ v1 wp, wp.ownsRow x0.heap.size 9 1 v1 (L.length + 1) (txs L ++ [.string (mkS (Lib.itoa n))]) → y.grownBy wp v.ownBlock → PutAt x0 bo bw ok (L ++ [mkS (Lib.itoa n)]) v1 (wp.setCell ⟨bw, 0, none⟩ v1) ∧ (wp.heap[bw]? = some (.cells #[v] 25 (0, 0)) ∧ Oth y (wp.setCell ⟨bw, 0, none⟩ v1)) := fun ok y1 y hy v1 wp ho hg => by
    have e1 : (L ++ [mkS (Lib.itoa n)]).length = L.length + 1 := by simp
    have e2 : txs (L ++ [mkS (Lib.itoa n)]) = txs L ++ [.string (mkS (Lib.itoa n))] := by simp [txs]
    refine ⟨hy.setW hg (by rw [e1, e2]; exact ho), ?_, hy.oth_w hg⟩
    refine (hg.block bw (lt_of_heap hy.wb) (fun e => ?_)).trans hy.wb
    obtain ⟨_, cur, hcur⟩ := own_blk hy.own bw e.symm
    rw [hy.wb] at hcur
    cases hcur
  rcases Bool.eq_false_or_eq_true ok with rfl | rfl
  · go_enter Tryz.func21, Tryz.ntmps21
    go_wp2_with fail
    refine hin.mono ?_
    rintro e w' ⟨rfl, rfl⟩
    go_wp2_with fail
    have H1 := Lib.hid (HS d)
    have HO1 := Lib.hid (HT d)
    have hfr1 := (Fr.setCell [bo] w ⟨bo, 0, none⟩ (.bool d) (by simp))
    have hz1 : (w.setCell ⟨bo, 0, none⟩ (.bool d)).heap.size = w.heap.size := by simp [World.setCell]
    have hap0 := hap0
    clear HS HT hin c0 c1 hfr1 hz1
    generalize (w.setCell ⟨bo, 0, none⟩ (.bool d)) = x at *
    have H2 := Lib.hid H1.out.drew
    have HO2 : Hid (Oth w x.drew) := Lib.hid HO1.out
    have cW : x.drew.cell? ⟨bw, 0, none⟩ = some v := (blk_cells H2.out.wb).1 0
    have Hwx := Lib.hid (Hw.out.below H2.out.fr)
    clear H H1 Hw
    with_reducible refine g_mixx [(0, 0), (1, 1), (2, 2), (3, 2), (4, 3), (5, 3)] (fun w' => w'.cell? ⟨bw, 0, none⟩ = some v) 0 _ rfl (by kernel_rfl) (by kernel_rfl) ?_ ?_
    · exact cW
    intro OPS HD
    simp only [mixX, nthO, consX]
    iterate 1 ((with_reducible refine x_val (v := ?_) ?_ ?_ ?_); rotate_left; (rintro _ h; go_simp; first | done | rfl | (constructor <;> rfl)); exact cW)
    iterate 1 ((with_reducible refine x_any (v := ?_) ?_ ?_); rotate_left; (rintro _; go_simp; first | done | rfl | (constructor <;> rfl)))
    with_reducible refine x_one ?_
    refine l_call ?_ ((itoa_call h0 h1 Hwx.out).mono ?_)
    · go_simp
    rintro e y1 ⟨rfl, hB1⟩
    have H3 := Lib.hid (H2.out.below hB1)
    have HO3 := Lib.hid ((HO2.out.trans (Oth.of_below hB1)).trans (Oth.of_below ((Below.refl y1.heap.size y1).alloc (Nat.le_refl _) (.cells #[.string (mkS (Lib.itoa n))] 9))))
    refine ⟨_, rfl, ?_⟩
    refine x_keep ((hB1.cell (lt_of_heap H2.out.wb)).trans cW) ?_
    with_reducible refine x_one ?_
    iterate 1 (with_reducible refine l_val (v := ?_) (w' := ?_) ?_ ?_; rotate_left 2; (go_simp; first | done | rfl | (constructor <;> rfl)))
    have H4 := Lib.hid (H3.out.alloc (.cells #[.string (mkS (Lib.itoa n))] 9))
    have hz3 := H4.out.fr.size
    have hap := hap0 d y1 (y1.alloc (.cells #[.string (mkS (Lib.itoa n))] 9)) H4.out
    refine x_keep ((blk_cells H4.out.wb).1 0) ?_
    with_reducible refine x_three ?_
    refine wpList_append_own _ rfl (.tmp 9) (.tmp 12) 25 rfl x0.heap.size 9 iS (.string ByteArray.empty) 1 16 Tryz.underlying25 hiS hzS hsS hbS rfl (by omega) v L.length (txs L) ?_ H4.out.own ⟨y1.heap.size, 0, none⟩ 1 1 [.string (mkS (Lib.itoa n))] ?_ rfl (fun j v hv => World.news_of_block (w := y1.alloc _) (heap_alloc_new y1 _) j v hv) (by intro u hu; rw [List.mem_singleton.1 hu]; rfl) (by unfold maxLen; omega) (by omega) hz3 ?_
    · simp [Act.eval, Act.put]
    · simp [Act.eval, Act.put]
    intro v1 wp hown1 hgrow1 _
    have Hap := Lib.hid (hap v1 wp hown1 hgrow1)
    obtain ⟨Av1, cv1, rfl, _, _, _, _⟩ := own_form hown1
    have cP : wp.heap[bw]? = some (.cells #[v] 25 (0, 0)) := Hap.out.2.1
    have cP0 : wp.cell? ⟨bw, 0, none⟩ = some v := (blk_cells cP).1 0
    have cP1 : wp.frozen? ⟨bw, 0, none⟩ = false := (blk_cells cP).2.1 0
    clear hown1 hgrow1 hap hB1 H2 H3 H4
    with_reducible refine x_last ?_
    with_reducible refine x_three ?_
    with_reducible refine l_skip (w' := wp.setCell ⟨bw, 0, none⟩ (.slice Av1 (L.length + 1) cv1)) ?_ ?_
    · go_simp
    with_reducible refine x_last ?_
    with_reducible refine x_end ?_
    simp only [Act.put, List.setIfInBounds_toArray, List.set_cons_zero, List.set_cons_succ]
    go_wp2_with fail
    exact bodyPost_ret (results_none rfl _ _ _) rfl ⟨rfl, _, Hap.out.1, HO3.out.trans Hap.out.2.2⟩
  · go_enter Tryz.func21, Tryz.ntmps21
    go_wp2_with fail
    have H1 := Lib.hid (HS false)
    have HO1 := Lib.hid (HT false)
    have hfr1 := (Fr.setCell [bo] w ⟨bo, 0, none⟩ (.bool false) (by simp))
    have hz1 : (w.setCell ⟨bo, 0, none⟩ (.bool false)).heap.size = w.heap.size := by simp [World.setCell]
    clear HS HT hin c0 c1 hfr1 hz1
    generalize (w.setCell ⟨bo, 0, none⟩ (.bool false)) = x at *
    have H2 := Lib.hid H1.out.drew
    have HO2 : Hid (Oth w x.drew) := Lib.hid HO1.out
    have cW : x.drew.cell? ⟨bw, 0, none⟩ = some v := (blk_cells H2.out.wb).1 0
    have Hwx := Lib.hid (Hw.out.below H2.out.fr)
    clear H H1 Hw
    with_reducible refine g_mixx [(0, 0), (1, 1), (2, 2), (3, 2), (4, 3), (5, 3)] (fun w' => w'.cell? ⟨bw, 0, none⟩ = some v) 0 _ rfl (by kernel_rfl) (by kernel_rfl) ?_ ?_
    · exact cW
    intro OPS HD
    simp only [mixX, nthO, consX]
    iterate 1 ((with_reducible refine x_val (v := ?_) ?_ ?_ ?_); rotate_left; (rintro _ h; go_simp; first | done | rfl | (constructor <;> rfl)); exact cW)
    iterate 1 ((with_reducible refine x_any (v := ?_) ?_ ?_); rotate_left; (rintro _; go_simp; first | done | rfl | (constructor <;> rfl)))
    with_reducible refine x_one ?_
    refine l_call ?_ ((itoa_call h0 h1 Hwx.out).mono ?_)
    · go_simp
    rintro e y1 ⟨rfl, hB1⟩
    have H3 := Lib.hid (H2.out.below hB1)
    have HO3 := Lib.hid ((HO2.out.trans (Oth.of_below hB1)).trans (Oth.of_below ((Below.refl y1.heap.size y1).alloc (Nat.le_refl _) (.cells #[.string (mkS (Lib.itoa n))] 9))))
    refine ⟨_, rfl, ?_⟩
    refine x_keep ((hB1.cell (lt_of_heap H2.out.wb)).trans cW) ?_
    with_reducible refine x_one ?_
    iterate 1 (with_reducible refine l_val (v := ?_) (w' := ?_) ?_ ?_; rotate_left 2; (go_simp; first | done | rfl | (constructor <;> rfl)))
    have H4 := Lib.hid (H3.out.alloc (.cells #[.string (mkS (Lib.itoa n))] 9))
    have hz3 := H4.out.fr.size
    have hap := hap0 false y1 (y1.alloc (.cells #[.string (mkS (Lib.itoa n))] 9)) H4.out
    refine x_keep ((blk_cells H4.out.wb).1 0) ?_
    with_reducible refine x_three ?_
    refine wpList_append_own _ rfl (.tmp 9) (.tmp 12) 25 rfl x0.heap.size 9 iS (.string ByteArray.empty) 1 16 Tryz.underlying25 hiS hzS hsS hbS rfl (by omega) v L.length (txs L) ?_ H4.out.own ⟨y1.heap.size, 0, none⟩ 1 1 [.string (mkS (Lib.itoa n))] ?_ rfl (fun j v hv => World.news_of_block (w := y1.alloc _) (heap_alloc_new y1 _) j v hv) (by intro u hu; rw [List.mem_singleton.1 hu]; rfl) (by unfold maxLen; omega) (by omega) hz3 ?_
    · simp [Act.eval, Act.put]
    · simp [Act.eval, Act.put]
    intro v1 wp hown1 hgrow1 _
    have Hap := Lib.hid (hap v1 wp hown1 hgrow1)
    obtain ⟨Av1, cv1, rfl, _, _, _, _⟩ := own_form hown1
    have cP : wp.heap[bw]? = some (.cells #[v] 25 (0, 0)) := Hap.out.2.1
    have cP0 : wp.cell? ⟨bw, 0, none⟩ = some v := (blk_cells cP).1 0
    have cP1 : wp.frozen? ⟨bw, 0, none⟩ = false := (blk_cells cP).2.1 0
    clear hown1 hgrow1 hap hB1 H2 H3 H4
    with_reducible refine x_last ?_
    with_reducible refine x_three ?_
    with_reducible refine l_skip (w' := wp.setCell ⟨bw, 0, none⟩ (.slice Av1 (L.length + 1) cv1)) ?_ ?_
    · go_simp
    with_reducible refine x_last ?_
    with_reducible refine x_end ?_
    simp only [Act.put, List.setIfInBounds_toArray, List.set_cons_zero, List.set_cons_succ]
    go_wp2_with fail
    exact bodyPost_ret (results_none rfl _ _ _) rfl ⟨rfl, _, Hap.out.1, HO3.out.trans Hap.out.2.2⟩
end Go.Proofs.YtlljjddgbilipaaGreatDoor
