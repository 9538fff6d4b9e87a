/-
  text.ParseOpts: what a line says as options.
-/
import Derived.Test.YtlljjddgbilipaaGreatDoorTxOpp
import Derived.Test.YtlljjddgbilipaaGreatDoorTxPa0
import Derived.Test.YtlljjddgbilipaaGreatDoorTxAbF
import Derived.Test.YtlljjddgbilipaaGreatDoorTxSa0
namespace Go.Proofs.YtlljjddgbilipaaGreatDoor
open Go.RowKit Go.Maps

set_option linter.unusedSimpArgs false

attribute [local go_sem] lt1 lt2 lt3 lt4 lt5 lt6

def zOV : List Value := opV 0 (.slice none 0 0) 0 0 0 0 (.slice none 0 0) ⟨#[]⟩ false ⟨#[]⟩ ⟨#[]⟩ ⟨#[]⟩ (.slice none 0 0)
theorem opV_one {q1 q2 q3 q4 q5 : Int} {sv tv cv : Value} {bp kn ks nm : ByteArray} {off : Bool} (h1 : sv.oneCell' = true) (h2 : tv.oneCell' = true) (h3 : cv.oneCell' = true) : (opV q1 sv q2 q3 q4 q5 tv bp off kn ks nm cv).toArray.all (·.oneCell') = true := all_oneCell_toArray (by
  intro u hu
  simp only [opV, List.mem_cons, List.not_mem_nil, or_false] at hu
  rcases hu with rfl | rfl | rfl | rfl | rfl | rfl | rfl | rfl | rfl | rfl | rfl | rfl | rfl <;> first | rfl | exact h1 | exact h2 | exact h3)
theorem zOV_one : zOV.toArray.all (·.oneCell') = true := opV_one rfl rfl rfl
theorem OpBox.zero (w : World) : OpBox w zOV.toArray zOpt := ⟨none, none, none, 0, 0, 0, [], ⟨#[]⟩, ⟨#[]⟩, rfl, ⟨rfl, by simp [zOpt], by simp [zOpt], by unfold maxLen; omega, fun h => by simp [zOpt] at h⟩, ⟨rfl, by simp, by simp, by unfold maxLen; omega, fun h => by simp at h⟩, rfl, Bs.none_ w⟩
def PoPost (w : World) (s : ByteArray) (e : Ending) (w' : World) : Prop := ∃ V, e = .returned (.tuple #[.agg V, .int .i64 (parseOL (toL s)).2]) ∧ OpBox w' V (parseOL (toL s)).1 ∧ Below w.heap.size w w'
theorem po_zero {w w' : World} {s : ByteArray} {n : Int} (h : parseOL (toL s) = (zOpt, n)) (hB : Below w.heap.size w w') : PoPost w s (.returned (.tuple #[.agg zOV.toArray, .int .i64 n])) w' :=
  ⟨_, by rw [h], by rw [h]; exact OpBox.zero _, hB⟩
theorem drop_word (D : List ByteArray) {i : Nat} (h : i < D.length) : D.drop i = D.getD i ⟨#[]⟩ :: D.drop (i + 1) := by
  rw [List.drop_eq_getElem_cons h]
  simp [List.getD_eq_getElem?_getD, h]
theorem eleven (D : List ByteArray) (h : 11 ≤ D.length) : D = D.getD 0 ⟨#[]⟩ :: D.getD 1 ⟨#[]⟩ :: D.getD 2 ⟨#[]⟩ :: D.getD 3 ⟨#[]⟩ :: D.getD 4 ⟨#[]⟩ :: D.getD 5 ⟨#[]⟩ :: D.getD 6 ⟨#[]⟩ :: D.getD 7 ⟨#[]⟩ :: D.getD 8 ⟨#[]⟩ :: D.getD 9 ⟨#[]⟩ :: D.getD 10 ⟨#[]⟩ :: D.drop 11 := by
  rw [← drop_word D (i := 10) (by omega), ← drop_word D (i := 9) (by omega), ← drop_word D (i := 8) (by omega), ← drop_word D (i := 7) (by omega), ← drop_word D (i := 6) (by omega), ← drop_word D (i := 5) (by omega), ← drop_word D (i := 4) (by omega), ← drop_word D (i := 3) (by omega), ← drop_word D (i := 2) (by omega), ← drop_word D (i := 1) (by omega), ← drop_word D (i := 0) (by omega)]
  rfl
theorem infoInt1 : (Tryz.prog.info? 3).map (fun i => (i.zero, i.size, i.bytes)) = some (some (.int .i64 0), 1, 8) := by kernel_rfl
/-- the first loop -/
def PoR1 (x2 : World) (b g : Nat) (a : Nat → List UInt8) (okv iv : Value) (wr : World) : Prop := ∃ (j : Nat) (ok : Bool) (x : Nat → Int), j ≤ 5 ∧ iv = .int .i64 (j : Nat) ∧ okv = .bool ok ∧ Know a j ok x ∧ wr.heap[b]? = some (.cells (rowN x (.slice none 0 0)).toArray 32 (0, 0)) ∧ wr.heap[g]? = some (.cells (numPtrs b).toArray 67 (0, 0)) ∧ Below x2.heap.size x2 wr
/-- the second loop -/
def PoR2 (x2 : World) (b : Nat) (l : List (List UInt8)) (x : Nat → Int) (ok0 : Bool) (okv iv : Value) (wr : World) : Prop := ∃ (j : Nat) (ok : Bool) (z : List Int) (sv : Value), j ≤ l.length ∧ iv = .int .i64 (j : Nat) ∧ okv = .bool ok ∧ Know2 l j ok0 ok z ∧ wr.heap[b]? = some (.cells (rowN x sv).toArray 32 (0, 0)) ∧ wr.ownsRow x2.heap.size 3 1 sv z.length (iV z) ∧ Below x2.heap.size x2 wr
/-- the row of options, as it is filled -/
structure PoM (x2 : World) (b : Nat) (R : List Value) (z : List Int) (sv : Value) (w : World) : Prop where
  row : w.heap[b]? = some (.cells R.toArray 32 (0, 0))
  own : w.ownsRow x2.heap.size 3 1 sv z.length (iV z)
  fr : Below x2.heap.size x2 w
theorem PoM.below {x2 : World} {b : Nat} {R : List Value} {z : List Int} {sv : Value} {w w' : World} (h : PoM x2 b R z sv w) (hb : Below w.heap.size w w') : PoM x2 b R z sv w' :=
  ⟨(hb.block _ (lt_of_heap h.row)).trans h.row, own_keep h.own fun q _ hq => (hb.block q (lt_of_heap hq)).trans hq, h.fr.trans (hb.mono h.fr.size)⟩
theorem PoM.set {x2 : World} {b : Nat} {R : List Value} {z : List Int} {sv : Value} {w : World} (h : PoM x2 b R z sv w) (hb : x2.heap.size ≤ b) (i : Nat) (v : Value) : PoM x2 b (R.set i v) z sv (w.setCell ⟨b, i, none⟩ v) := by
  have hf := Fr.setCell [b] w ⟨b, i, none⟩ v (by simp)
  refine ⟨by rw [heap_setCell_at h.row, List.setIfInBounds_toArray], own_keep h.own fun q c hq => ?_, h.fr.trans (hf.below h.fr.size (by intro k hk; rw [List.mem_singleton.1 hk]; exact hb))⟩
  refine (hf.block q (lt_of_heap hq) (fun hh => ?_)).trans hq
  rw [List.mem_singleton.1 hh, h.row] at hq
  cases hq
theorem PoM.dat {x2 : World} {b : Nat} {R : List Value} {z : List Int} {sv : Value} {w : World} (h : PoM x2 b R z sv w) (i : Nat) (v : Value) {dv : Value} {l : List UInt8} (hd : DatB w dv l) : DatB (w.setCell ⟨b, i, none⟩ v) dv l :=
  hd.keep (Byt.of_fr (Fr.setCell [b] w ⟨b, i, none⟩ v (by simp)) h.row (by decide))
theorem Below.of_none {w w' : World} (h : w.grownBy w' none) : Below w.heap.size w w' := ⟨h.os, h.tape, h.output, h.size, fun k hk => h.block k hk (by simp)⟩
theorem Sl.news {w : World} {A : Option Addr} {c n t bb ob : Nat} {xs : List Value} (h : Sl w A c n 1 xs) (hA : A = some ⟨bb, ob, none⟩) : ∀ (j : Nat) u, (xs.take t)[j]? = some u → w.cell? ((⟨bb, ob, none⟩ : Addr).add j) = some u := by
  intro j u hu
  have hj := (List.getElem?_eq_some_iff.1 hu).1
  rw [List.length_take] at hj
  have hl := h.len
  obtain ⟨b, o, he, hx⟩ := h.cells (by omega)
  rw [hA] at he
  cases he
  rw [List.getElem?_take_of_lt (by omega)] at hu
  rw [Addr.add_lit, hx j (by omega), hu]
theorem nth5_eq (D : List ByteArray) {i : Nat} (h : i < 5) : nth5 (toL (D.getD 1 ⟨#[]⟩)) (toL (D.getD 2 ⟨#[]⟩)) (toL (D.getD 3 ⟨#[]⟩)) (toL (D.getD 4 ⟨#[]⟩)) (toL (D.getD 5 ⟨#[]⟩)) i = toL (D.getD (i + 1) ⟨#[]⟩) := by
  rcases i with _ | _ | _ | _ | _ | i
  · rfl
  · rfl
  · rfl
  · rfl
  · rfl
  · omega
set_option maxRecDepth 100000 in
set_option maxHeartbeats 8000000 in
theorem parseOpts_any (s : ByteArray) (hl : s.size ≤ 1048576) (w : World) (hw : Lw w) : Calls Tryz.prog 6 #[.string s] w (PoPost w s) := by
  have Hw := Lib.hid hw
  clear hw
  go_enter Tryz.func6, Tryz.ntmps6
  go_wp2_with fail
  refine (words_any _ s hl).mono ?_
  rintro e x1 ⟨D, v, rfl, hown, hB1, hD⟩
  obtain ⟨A, c, rfl, hS⟩ := row_sl hown
  have hr1 : x1.heap[w.heap.size]? = some (.cells zOV.toArray 32 (0, 0)) := (hB1.block _ (by simp)).trans (heap_alloc_new _ _)
  have hBw : Below w.heap.size w x1 := ((Below.refl w.heap.size w).alloc (Nat.le_refl _) _).trans (hB1.mono (by simp))
  have hz1 : w.heap.size < x1.heap.size := lt_of_heap hr1
  have HR := Lib.hid hr1
  have HB := Lib.hid hBw
  have HS1 := Lib.hid hS
  have HD := Lib.hid hD
  have HDz : Hid (∀ p ∈ D, p.size ≤ 1048576) := Lib.hid (fun p hp => by
    have h3 := wordsOf_len (s := toL s) (x := toL p) (by rw [← hD]; exact List.mem_map.2 ⟨_, hp, rfl⟩)
    rw [toL_len, toL_len] at h3
    omega)
  have hDs : D.length ≤ 1048576 := by
    have h1 := wordsOf_count (toL s)
    rw [← hD, List.length_map, toL_len] at h1
    omega
  clear hr1 hBw hS hD hown hB1
  by_cases he : wordsErr (toL s) ≠ 0
  · have heb : (wordsErr (toL s) == 0) = false := beq_eq_false_iff_ne.2 he
    have Hp := Lib.hid (parseOL_err he)
    generalize wordsErr (toL s) = er at *
    clear he
    go_wp2_with ((with_reducible refine at_store 32 ?_); refine wpList_store_row rfl 32 _ _ rfl w.heap.size zOV.toArray rfl rfl 32 zOV.toArray HR.out sizeOpt rfl zOV_one ?_)
    refine bodyPost_ret (res_cell2 rfl _ _ w.heap.size 32 zOV.toArray (0, 0) rfl (setRow_heap _ _ _ _ _ _ HR.out) Tryz.underlying32 rfl sizeOpt) rfl ?_
    exact po_zero Hp.out (below_row HB.out (Nat.le_refl _) _)
  have he0 : wordsErr (toL s) = 0 := Decidable.not_not.1 he
  have Hp0 := Lib.hid (parseOL_ok he0)
  rw [he0]
  clear he he0
  by_cases hD0 : D = []
  · have hz : ((D.length : Int) == 0) = true := by rw [hD0]; rfl
    have Hp : Hid (parseOL (toL s) = (zOpt, 7)) := Lib.hid (by rw [Hp0.out, ← HD.out, hD0]; rfl)
    clear hD0
    go_wp2_with ((with_reducible refine at_store 32 ?_); refine wpList_store_row rfl 32 _ _ rfl w.heap.size zOV.toArray rfl rfl 32 zOV.toArray HR.out sizeOpt rfl zOV_one ?_)
    refine bodyPost_ret (res_cell2 rfl _ _ w.heap.size 32 zOV.toArray (0, 0) rfl (setRow_heap _ _ _ _ _ _ HR.out) Tryz.underlying32 rfl sizeOpt) rfl ?_
    exact po_zero Hp.out (below_row HB.out (Nat.le_refl _) _)
  have hDl : 0 < D.length := List.length_pos_iff.2 hD0
  obtain ⟨bw, ow, q0, hA, hq0, hc0⟩ := str_at (w := x1) (x := D) HS1.out hDl
  rw [Nat.add_zero] at hc0
  subst hA
  have hz : ((D.length : Int) == 0) = false := by rw [beq_eq_false_iff_ne]; omega
  have hlt0 : (0 : Int) < D.length := by omega
  have Hhd : Hid ((wordsOf (toL s)).head? = some (toL q0)) := Lib.hid (by
    rw [← HD.out, List.head?_map, List.head?_eq_getElem?, hq0]
    rfl)
  have Hlen : Hid ((wordsOf (toL s)).length = D.length) := Lib.hid (by rw [← HD.out, List.length_map])
  have Hq0 := Lib.hid hq0
  clear hD0 hq0
  by_cases hr : ¬ q0.toList = [115, 116, 111, 114, 121]
  · have hrb : (q0.toList == [115, 116, 111, 114, 121]) = false := beq_eq_false_iff_ne.2 hr
    have Hp : Hid (parseOL (toL s) = (zOpt, 7)) := Lib.hid (by
      rw [Hp0.out]
      refine parseOW_head (fun e => hr ?_)
      rw [Hhd.out] at e
      rw [toList_toL]
      exact Option.some.inj e)
    clear hr
    go_wp2_with ((with_reducible refine at_store 32 ?_); refine wpList_store_row rfl 32 _ _ rfl w.heap.size zOV.toArray rfl rfl 32 zOV.toArray HR.out sizeOpt rfl zOV_one ?_)
    refine bodyPost_ret (res_cell2 rfl _ _ w.heap.size 32 zOV.toArray (0, 0) rfl (setRow_heap _ _ _ _ _ _ HR.out) Tryz.underlying32 rfl sizeOpt) rfl ?_
    exact po_zero Hp.out (below_row HB.out (Nat.le_refl _) _)
  have hr := Decidable.not_not.1 hr
  have hrb : (q0.toList == [115, 116, 111, 114, 121]) = true := by rw [hr]; rfl
  have Hst : Hid (toL q0 = storyW) := Lib.hid (by rw [← toList_toL, hr]; rfl)
  clear hr
  by_cases h11 : (D.length : Int) < 11
  · have Hp : Hid (parseOL (toL s) = (zOpt, 14)) := Lib.hid (by
      rw [Hp0.out]
      exact parseOW_short (by rw [Hhd.out, Hst.out]) (by rw [Hlen.out]; omega))
    go_wp2_with ((with_reducible refine at_store 32 ?_); refine wpList_store_row rfl 32 _ _ rfl w.heap.size zOV.toArray rfl rfl 32 zOV.toArray HR.out sizeOpt rfl zOV_one ?_)
    refine bodyPost_ret (res_cell2 rfl _ _ w.heap.size 32 zOV.toArray (0, 0) rfl (setRow_heap _ _ _ _ _ _ HR.out) Tryz.underlying32 rfl sizeOpt) rfl ?_
    exact po_zero Hp.out (below_row HB.out (Nat.le_refl _) _)
  have hD11 : 11 ≤ D.length := by omega
  have Hword : Hid (∀ i, i < D.length → x1.cell? ⟨bw, ow + i, none⟩ = some (.string (D.getD i ⟨#[]⟩)) ∧ (D.getD i ⟨#[]⟩).size ≤ 1048576) := Lib.hid (fun i hi => by
    obtain ⟨_, _, q, hA, hq, g⟩ := str_at (w := x1) (x := D) HS1.out hi
    cases hA
    have e : D.getD i ⟨#[]⟩ = q := by rw [List.getD_eq_getElem?_getD, hq]; rfl
    rw [e]
    exact ⟨g, HDz.out q (List.mem_of_getElem? hq)⟩)
  have Htail : Hid (parseOL (toL s) = tailOW (toL (D.getD 1 ⟨#[]⟩)) (toL (D.getD 2 ⟨#[]⟩)) (toL (D.getD 3 ⟨#[]⟩)) (toL (D.getD 4 ⟨#[]⟩)) (toL (D.getD 5 ⟨#[]⟩)) (toL (D.getD 6 ⟨#[]⟩)) (toL (D.getD 7 ⟨#[]⟩)) (toL (D.getD 8 ⟨#[]⟩)) (toL (D.getD 9 ⟨#[]⟩)) (toL (D.getD 10 ⟨#[]⟩)) ((D.drop 11).map toL)) := Lib.hid (by
    have e0 : D.getD 0 ⟨#[]⟩ = q0 := by rw [List.getD_eq_getElem?_getD, Hq0.out]; rfl
    have h := congrArg (List.map toL) (eleven D hD11)
    rw [HD.out, e0] at h
    simp only [List.map_cons] at h
    rw [Hst.out] at h
    rw [Hp0.out, h, parseOW_tail])
  obtain ⟨q10, hq10⟩ : ∃ q, q = D.getD 10 ⟨#[]⟩ := ⟨_, rfl⟩
  obtain ⟨q6, hq6⟩ : ∃ q, q = D.getD 6 ⟨#[]⟩ := ⟨_, rfl⟩
  have c10 := (Hword.out 10 (by omega)).1
  have c6 := (Hword.out 6 (by omega)).1
  have z10 := (Hword.out 10 (by omega)).2
  rw [← hq10] at c10 z10
  rw [← hq6] at c6
  rw [← hq10, ← hq6] at Htail
  have hI10 : (10 : Int) < D.length := by omega
  have hI6 : (6 : Int) < D.length := by omega
  clear hq10 hq6 Hhd Hlen Hq0 Hst Hp0
  go_wp2_with fail
  refine (number_any q10 z10 (Hw.out.below HB.out)).mono ?_
  rintro e x2 ⟨hB2, n, is, rfl, hnum⟩
  have hcut : (Instr.slice 25 (.slice (some ⟨bw, ow, none⟩) D.length c) (some (.int .i64 11)) none none).run Tryz.prog x2 = .ok (.slice (cutA (some ⟨bw, ow, none⟩) c 11) (D.length - 11) (c - 11)) x2 := slice_loS (some ⟨bw, ow, none⟩) D.length c 11 hD11 x2
  have Hbeh := Lib.hid ((HS1.out.keep (Cells.of_below hB2)).dropS (l := 11) hD11)
  have c6' : x2.cell? ⟨bw, ow + 6, none⟩ = some (.string q6) := (hB2.cell (World.block_lt_of_cell? x1 _ c6)).trans c6
  have HR2 := Lib.hid ((hB2.block _ hz1).trans HR.out)
  have HB2 := Lib.hid (HB.out.trans (hB2.mono HB.out.size))
  have Hword2 : Hid (∀ i, i < D.length → x2.cell? ⟨bw, ow + i, none⟩ = some (.string (D.getD i ⟨#[]⟩)) ∧ (D.getD i ⟨#[]⟩).size ≤ 1048576) := Lib.hid (fun i hi => ⟨(hB2.cell (World.block_lt_of_cell? x1 _ (Hword.out i hi).1)).trans (Hword.out i hi).1, (Hword.out i hi).2⟩)
  have hz2 : w.heap.size < x2.heap.size := lt_of_heap HR2.out
  clear HR HB Hword HS1 c10 c6 hB2 hz1
  have HR := HR2
  have HB := HB2
  have Hword := Hword2
  have c6 := c6'
  clear HR2 HB2 Hword2 c6'
  obtain ⟨iI, hiI, hzI, hsI, hbI⟩ := info_parts infoInt1
  obtain ⟨iS, hiS, hzS, hsS, hbS⟩ := info_parts infoStr1
  obtain ⟨Ab, hAb⟩ : ∃ z, z = cutA (some ⟨bw, ow, none⟩) c 11 := ⟨_, rfl⟩
  obtain ⟨cb, hcb⟩ : ∃ z, z = c - 11 := ⟨_, rfl⟩
  obtain ⟨nb, hnb⟩ : ∃ z, z = D.length - 11 := ⟨_, rfl⟩
  have HAb : Hid (∃ bb ob, Ab = some ⟨bb, ob, none⟩) := Lib.hid (by rw [hAb]; unfold cutA; split <;> exact ⟨_, _, rfl⟩)
  rw [← hAb, ← hcb, ← hnb] at hcut
  have Hbeh2 := Hbeh.out
  rw [← hAb, ← hcb, ← hnb, txs_drop] at Hbeh2
  have Hbeh := Lib.hid Hbeh2
  have hRl : (D.drop 11).length = nb := by rw [List.length_drop, hnb]
  have HRl := Lib.hid hRl
  have hnbz : nb ≤ 1048576 := by omega
  have Hnb := Lib.hid hnb
  clear hAb hcb hnb Hbeh2 hRl
  have Hnum := Lib.hid hnum
  clear hnum
  rcases Bool.eq_false_or_eq_true is with hi | hi
  · subst hi
    have hk : numP (toL q10) = some n := Hnum.out
    by_cases hgt : (nb : Int) < n
    · have Hp : Hid (parseOL (toL s) = (zOpt, 14)) := Lib.hid (by rw [Htail.out]; exact tail_many hk (by rw [List.length_map, HRl.out]; exact hgt))
      clear hk
      go_wp2_with ((with_reducible refine at_store 32 ?_); refine wpList_store_row rfl 32 _ _ rfl w.heap.size zOV.toArray rfl rfl 32 zOV.toArray HR.out sizeOpt rfl zOV_one ?_)
      refine bodyPost_ret (res_cell2 rfl _ _ w.heap.size 32 zOV.toArray (0, 0) rfl (setRow_heap _ _ _ _ _ _ HR.out) Tryz.underlying32 rfl sizeOpt) rfl ?_
      exact po_zero Hp.out (below_row HB.out (Nat.le_refl _) _)
    · by_cases hneg : n < 0
      · have Hp : Hid (parseOL (toL s) = (zOpt, 6)) := Lib.hid (by rw [Htail.out]; exact tail_range hk (by rw [List.length_map, HRl.out]; exact hgt) (.inl hneg))
        clear hk
        go_wp2_with ((with_reducible refine at_store 32 ?_); refine wpList_store_row rfl 32 _ _ rfl w.heap.size zOV.toArray rfl rfl 32 zOV.toArray HR.out sizeOpt rfl zOV_one ?_)
        refine bodyPost_ret (res_cell2 rfl _ _ w.heap.size 32 zOV.toArray (0, 0) rfl (setRow_heap _ _ _ _ _ _ HR.out) Tryz.underlying32 rfl sizeOpt) rfl ?_
        exact po_zero Hp.out (below_row HB.out (Nat.le_refl _) _)
      · obtain ⟨t, rfl⟩ := Int.eq_ofNat_of_zero_le (by omega : 0 ≤ n)
        have htn : t ≤ nb := by omega
        have Hk := Lib.hid hk
        clear hk
        by_cases h0 : q6.toList = [48]
        · have hb0 : (q6.toList == [48]) = true := by rw [h0]; rfl
          have hb1 : (q6.toList == [49]) = false := by rw [h0]; rfl
          have H6 : Hid ((toL q6 = [48] ∨ toL q6 = [49]) ∧ decide (toL q6 = [49]) = false) := Lib.hid (by rw [← toList_toL, h0]; exact ⟨.inl rfl, rfl⟩)
          clear h0
          go_wp2_with fail
          clear hc0 hlt0 hr hrb hI10 hI6 hcut hb0 Hnum
          refine (numbers_any (x2.alloc (.cells zOV.toArray 32)) x2.heap.size).mono ?_
          rintro e x4 ⟨rfl, hg4, hB4⟩
          have hb4 : x4.heap[x2.heap.size]? = some (.cells (rowN (fun _ => 0) (.slice none 0 0)).toArray 32 (0, 0)) := (hB4.block _ (by simp)).trans (heap_alloc_new x2 _)
          have hB24 : Below x2.heap.size x2 x4 := ((Below.refl x2.heap.size x2).alloc (Nat.le_refl _) _).trans (hB4.mono (by simp))
          obtain ⟨b, hb⟩ : ∃ b, b = x2.heap.size := ⟨_, rfl⟩
          obtain ⟨g, hg⟩ : ∃ g, g = (x2.alloc (.cells zOV.toArray 32)).heap.size := ⟨_, rfl⟩
          have hg' : (x2.alloc (.cells #[.int .i64 0, .slice none 0 0, .int .i64 0, .int .i64 0, .int .i64 0, .int .i64 0, .slice none 0 0, .string ⟨#[]⟩, .bool false, .string ⟨#[]⟩, .string ⟨#[]⟩, .string ⟨#[]⟩, .slice none 0 0] 32)).heap.size = g := hg.symm
          rw [← hg] at hg4 ⊢
          rw [← hb] at hg4 hb4 ⊢
          have hbx : x2.heap.size ≤ b := by omega
          have Hg4 := Lib.hid hg4
          have Hb4 := Lib.hid hb4
          have HB24 := Lib.hid hB24
          clear hg4 hb4 hB24 hB4 hb hg hg'
          go_wp2_with fail
          go_loopw [11, 83] (fun okv iv wr => PoR1 x2 b g (fun i => toL (D.getD (i + 1) ⟨#[]⟩)) okv iv wr) (fun _ iv _ => 5 - (intOf iv).toNat)
          case atStart => exact ⟨0, true, fun _ => 0, by omega, rfl, rfl, ⟨fun _ i hi => by omega, fun h => by cases h⟩, Hb4.out, Hg4.out, HB24.out⟩
          case round =>
            clear Hb4 Hg4 HB24
            obtain ⟨j, ok, x, hj, rfl, rfl, hk, hb, hg, hB⟩ := hrel
            have HKn := Lib.hid hk
            have Hb := Lib.hid hb
            have Hg := Lib.hid hg
            have HBr := Lib.hid hB
            clear hk hb hg hB
            by_cases hlt : j < 5
            · have cg : wr.cell? ⟨g, j, none⟩ = some (.pointer (some ⟨b, offN5 j, none⟩)) := ((blk_cells Hg.out).1 j).trans (numPtrs_at b hlt)
              obtain ⟨hcw, hqz⟩ := Hword.out (j + 1) (by omega)
              have cw : wr.cell? ⟨bw, ow + (j + 1), none⟩ = some (.string (D.getD (j + 1) ⟨#[]⟩)) := (HBr.out.cell (World.block_lt_of_cell? x2 _ hcw)).trans hcw
              obtain ⟨q, hq⟩ : ∃ q, q = D.getD (j + 1) ⟨#[]⟩ := ⟨_, rfl⟩
              rw [← hq] at cw hqz
              have Hq := Lib.hid hq
              have hjI : (j : Int) < 5 := by omega
              have hjr : (0 : Int) ≤ j := by omega
              have hj1 : (0 : Int) ≤ 1 + (j : Int) := by omega
              have hj2 : 1 + (j : Int) < D.length := by omega
              have hjt : (1 + (j : Int)).toNat = j + 1 := by omega
              have hjw : IntKind.i64.wrap (1 + (j : Int)) = 1 + (j : Int) := by rw [IntKind.wrap_i64]; omega
              clear hcw hq
              go_wp2_with fail
              refine (number_any q hqz ((Hw.out.below HB.out).below HBr.out)).mono ?_
              rintro e y ⟨hBy, n', is', rfl, hn'⟩
              have hby := (hBy.block _ (lt_of_heap Hb.out)).trans Hb.out
              have hgy := (hBy.block _ (lt_of_heap Hg.out)).trans Hg.out
              have hBy2 := HBr.out.trans (hBy.mono HBr.out.size)
              have c1 : y.cell? ⟨b, offN5 j, none⟩ = some (.int .i64 (x j)) := ((blk_cells hby).1 _).trans (rowN_at x _ hlt)
              have c2 : y.frozen? ⟨b, offN5 j, none⟩ = false := (blk_cells hby).2.1 _
              have hfr := Fr.setCell [b] y ⟨b, offN5 j, none⟩ (.int .i64 n') (by simp)
              have hm : PoR1 x2 b g (fun i => toL (D.getD (i + 1) ⟨#[]⟩)) (.bool (ok && is')) (.int .i64 ((j : Int) + 1)) (y.setCell ⟨b, offN5 j, none⟩ (.int .i64 n')) := by
                refine ⟨j + 1, ok && is', updN x j n', by omega, by go_num, rfl, HKn.out.next (show numP (toL (D.getD (j + 1) ⟨#[]⟩)) = _ from by rw [← Hq.out]; exact hn'), ?_, ?_, hBy2.trans (hfr.below hBy2.size (by intro k hk; rw [List.mem_singleton.1 hk]; exact hbx))⟩
                · rw [heap_setCell_at hby, rowN_set x _ hlt]
                · refine (hfr.block g (lt_of_heap hgy) (fun hh => ?_)).trans hgy
                  rw [List.mem_singleton.1 hh, hby] at hgy
                  cases hgy
              have Hm := Lib.hid hm
              clear hm hfr hBy2 hgy hby hBy hn' Hb Hg HBr HKn cw cg
              rcases Bool.eq_false_or_eq_true ok with hok | hok
              · subst hok
                go_wp2_with fail
                exact ⟨Hm.out, by simp [intOf]; omega⟩
              · subst hok
                go_wp2_with fail
                exact ⟨Hm.out, by simp [intOf]; omega⟩
            · have hj5 : j = 5 := by omega
              subst hj5
              clear hlt hj Hg
              obtain ⟨E, hE⟩ : ∃ E, E = (D.drop 11).drop t := ⟨_, rfl⟩
              have hEl : E.length = nb - t := by rw [hE, List.length_drop, HRl.out]
              have hSE : Sl x2 (cutA Ab cb t) (cb - t) E.length 1 (txs E) := by
                rw [hEl, hE, ← txs_drop]
                exact Hbeh.out.dropS htn
              have hEz : ∀ p ∈ E, p.size ≤ 1048576 := fun p hp => HDz.out p (List.mem_of_mem_drop (List.mem_of_mem_drop (by rw [← hE]; exact hp)))
              have hcut2 : (Instr.slice 25 (.slice Ab nb cb) (some (.int .i64 ((t : Nat) : Int))) none none).run Tryz.prog wr = .ok (.slice (cutA Ab cb t) (nb - t) (cb - t)) wr := slice_loS Ab nb cb t htn wr
              obtain ⟨m, hm⟩ : ∃ m, m = nb - t := ⟨_, rfl⟩
              have hmz : m ≤ 1048576 := by omega
              rw [← hm] at hcut2 hEl
              rw [hEl] at hSE
              generalize cutA Ab cb t = A2 at *
              generalize cb - t = c2 at *
              have HE := Lib.hid hE
              have HEl := Lib.hid hEl
              have HSE := Lib.hid hSE
              have HEz := Lib.hid hEz
              clear hm hE hEl hSE hEz
              have HL : Hid ((((D.drop 11).map toL).drop t) = E.map toL ∧ (E.map toL).length = m) := Lib.hid ⟨by rw [← List.map_drop, HE.out], by rw [List.length_map, HEl.out]⟩
              have Htn := Lib.hid htn
              clear htn hgt
              go_wp2_with fail
              clear hcut2
              go_loopw [11, 109] (fun okv iv wr => PoR2 x2 b (E.map toL) x ok okv iv wr) (fun _ iv _ => m - (intOf iv).toNat)
              case atStart => exact ⟨0, ok, [], .slice none 0 0, by omega, rfl, rfl, ⟨rfl, fun h => ⟨h, rfl⟩, fun h => .inl h⟩, Hb.out, World.ownsRow_nil _ _ _ _, HBr.out⟩
              case round =>
                clear Hb HBr
                obtain ⟨j, oj, z, sv, hj, rfl, rfl, hk, hb, hown, hB⟩ := hrel
                have HK2 := Lib.hid hk
                have Hb := Lib.hid hb
                have Hown := Lib.hid hown
                have HBr := Lib.hid hB
                have hzl : z.length = j := hk.1
                rw [HL.out.2] at hj
                have hzm : z.length ≤ 1048576 := by omega
                clear hzl
                clear hk hb hown hB
                by_cases hlt : j < m
                · obtain ⟨bt, ot, q, hA2, hq, hc⟩ := str_at (x := E) (w := x2) (by rw [HEl.out]; exact HSE.out) (i := j) (by rw [HEl.out]; exact hlt)
                  subst hA2
                  have hqz := HEz.out q (List.mem_of_getElem? hq)
                  have cw : wr.cell? ⟨bt, ot + j, none⟩ = some (.string q) := (HBr.out.cell (World.block_lt_of_cell? x2 _ hc)).trans hc
                  have Hql : Hid ((E.map toL)[j]? = some (toL q)) := Lib.hid (by rw [List.getElem?_map, hq]; rfl)
                  have hjI : (j : Int) < m := by omega
                  have hjr : (0 : Int) ≤ j := by omega
                  clear hq hc
                  go_wp2_with fail
                  refine (number_any q hqz ((Hw.out.below HB.out).below HBr.out)).mono ?_
                  rintro e y ⟨hBy, n', is', rfl, hn'⟩
                  have hby := (hBy.block _ (lt_of_heap Hb.out)).trans Hb.out
                  have hBy2 := HBr.out.trans (hBy.mono HBr.out.size)
                  have hoy := own_keep Hown.out (fun q c hq => (hBy.block q (lt_of_heap hq)).trans hq)
                  have c1 : y.cell? ⟨b, 1, none⟩ = some sv := (blk_cells hby).1 1
                  have hyz := hBy2.size
                  have Hk3 := Lib.hid (HK2.out.next Hql.out hn')
                  have Hby := Lib.hid hby
                  have HBy2 := Lib.hid hBy2
                  have Hoy := Lib.hid hoy
                  obtain ⟨Asv, csv, rfl, -, -, -, -⟩ := own_form hoy
                  clear hby hBy2 hoy hBy hn' HBr Hb Hown HK2 cw Hql
                  have hfin : ∀ v1 wp, wp.ownsRow x2.heap.size 3 1 v1 (z.length + 1) (iV z ++ [.int .i64 n']) → (y.alloc (.cells #[.int .i64 n'] 3)).grownBy wp (Value.slice Asv z.length csv).ownBlock → (wp.cell? ⟨b, 1, none⟩ = some (.slice Asv z.length csv) ∧ wp.frozen? ⟨b, 1, none⟩ = false) ∧ PoR2 x2 b (E.map toL) x ok (.bool (oj && is')) (.int .i64 ((j : Int) + 1)) (wp.setCell ⟨b, 1, none⟩ v1) := fun v1 wp ho hg => by
                    have hb5 : wp.heap[b]? = some (.cells (rowN x (.slice Asv z.length csv)).toArray 32 (0, 0)) := by
                      refine (hg.block b (by simp; have := lt_of_heap Hby.out; omega) (fun e => ?_)).trans ((Below.heap_alloc _ _ _ (lt_of_heap Hby.out)).trans Hby.out)
                      obtain ⟨_, cur, hcur⟩ := own_blk Hoy.out b e.symm
                      rw [Hby.out] at hcur
                      cases hcur
                    have hB5 : Below x2.heap.size x2 wp := (HBy2.out.alloc hyz (.cells #[.int .i64 n'] 3)).grown hg (by simp; omega) (fun q hq => (own_blk Hoy.out q hq).1)
                    have hfr := Fr.setCell [b] wp ⟨b, 1, none⟩ v1 (by simp)
                    refine ⟨⟨(blk_cells hb5).1 1, (blk_cells hb5).2.1 1⟩, j + 1, oj && is', z ++ [n'], v1, by rw [HL.out.2]; omega, by go_num, rfl, Hk3.out, ?_, ?_, hB5.trans (hfr.below hB5.size (by intro k hk; rw [List.mem_singleton.1 hk]; exact hbx))⟩
                    · rw [heap_setCell_at hb5, rowN_sv]
                    · rw [List.length_append, show iV (z ++ [n']) = iV z ++ [.int .i64 n'] by simp [iV]]
                      refine own_keep ho fun q c hq => ?_
                      refine (hfr.block q (lt_of_heap hq) (fun hh => ?_)).trans hq
                      rw [List.mem_singleton.1 hh, hb5] at hq
                      cases hq
                  have Hfin := Lib.hid hfin
                  clear hfin
                  rcases Bool.eq_false_or_eq_true oj with hok | hok
                  · subst hok
                    go_wp2_with (at_builtin; refine wpList_append_own _ rfl (.tmp 119) (.tmp 121) 22 rfl x2.heap.size 3 iI (.int .i64 0) 1 8 Tryz.underlying22 hiI hzI hsI hbI rfl (by omega) (.slice Asv z.length csv) z.length (iV z) rfl (Hoy.out.alloc _) ⟨y.heap.size, 0, none⟩ 1 1 [.int .i64 n'] rfl rfl (fun j v hv => World.news_of_block (w := y.alloc _) (heap_alloc_new y _) j v hv) (by intro u hu; rw [List.mem_singleton.1 hu]; rfl) (by unfold maxLen; omega) (by omega) (by simp; omega) ?_)
                    intro v1 wp hown1 hgrow1 _
                    obtain ⟨⟨k1, k2⟩, hm⟩ := Hfin.out v1 wp hown1 hgrow1
                    obtain ⟨Av1, cv1, rfl, -, -, -, -⟩ := own_form hown1
                    have Hm := Lib.hid hm
                    clear hm hown1 hgrow1 Hfin
                    go_wp2_with fail
                    exact ⟨⟨_, _, _, _, _, _, _, _, _, _, _, _, _, _, _, _, _, _, _, _, _, _, _, _, Hm.out, rfl⟩, by simp [intOf]; omega⟩
                  · subst hok
                    go_wp2_with (at_builtin; refine wpList_append_own _ rfl (.tmp 119) (.tmp 121) 22 rfl x2.heap.size 3 iI (.int .i64 0) 1 8 Tryz.underlying22 hiI hzI hsI hbI rfl (by omega) (.slice Asv z.length csv) z.length (iV z) rfl (Hoy.out.alloc _) ⟨y.heap.size, 0, none⟩ 1 1 [.int .i64 n'] rfl rfl (fun j v hv => World.news_of_block (w := y.alloc _) (heap_alloc_new y _) j v hv) (by intro u hu; rw [List.mem_singleton.1 hu]; rfl) (by unfold maxLen; omega) (by omega) (by simp; omega) ?_)
                    intro v1 wp hown1 hgrow1 _
                    obtain ⟨⟨k1, k2⟩, hm⟩ := Hfin.out v1 wp hown1 hgrow1
                    obtain ⟨Av1, cv1, rfl, -, -, -, -⟩ := own_form hown1
                    have Hm := Lib.hid hm
                    clear hm hown1 hgrow1 Hfin
                    go_wp2_with fail
                    exact ⟨⟨_, _, _, _, _, _, _, _, _, _, _, _, _, _, _, _, _, _, _, _, _, _, _, _, Hm.out, rfl⟩, by simp [intOf]; omega⟩
                · have hjm : j = m := by omega
                  subst hjm
                  have HLt : Hid ((E.map toL).take j = E.map toL) := Lib.hid (List.take_of_length_le (by rw [HL.out.2]; exact Nat.le_refl _))
                  have HR9 := Lib.hid ((HBr.out.block _ hz2).trans HR.out)
                  have HB9 := Lib.hid (HB.out.trans (HBr.out.mono HB.out.size))
                  have HRx := HR
                  have HBx := HB
                  clear HR HB
                  have HR := HR9
                  have HB := HB9
                  clear HR9 HB9
                  rcases Bool.eq_false_or_eq_true oj with hok | hok
                  · subst hok
                    have h8 : wr.cell? ⟨b, 8, none⟩ = some (.bool false) := (blk_cells Hb.out).1 8
                    have h8f : wr.frozen? ⟨b, 8, none⟩ = false := (blk_cells Hb.out).2.1 8
                    have HM0 : Hid (PoM x2 b (rowN x sv) z sv wr) := Lib.hid ⟨Hb.out, Hown.out, HBr.out⟩
                    have HM := Lib.hid (HM0.out.set hbx 8 (.bool false))
                    clear Hb Hown HBr HM0
                    go_wp2_with fail
                    clear h8 h8f
                    generalize (wr.setCell ⟨b, 8, none⟩ (.bool false)) = xA at *
                    obtain ⟨q7, hq7⟩ : ∃ q, q = D.getD 7 ⟨#[]⟩ := ⟨_, rfl⟩
                    obtain ⟨q8, hq8⟩ : ∃ q, q = D.getD 8 ⟨#[]⟩ := ⟨_, rfl⟩
                    obtain ⟨q9, hq9⟩ : ∃ q, q = D.getD 9 ⟨#[]⟩ := ⟨_, rfl⟩
                    have w7 := Hword.out 7 (by omega)
                    have w8 := Hword.out 8 (by omega)
                    have w9 := Hword.out 9 (by omega)
                    rw [← hq7] at w7
                    rw [← hq8] at w8
                    rw [← hq9] at w9
                    have z9 := w9.2
                    have HS : Hid (∀ y, Below x2.heap.size x2 y → y.cell? ⟨bw, ow + 7, none⟩ = some (.string q7) ∧ y.cell? ⟨bw, ow + 8, none⟩ = some (.string q8) ∧ y.cell? ⟨bw, ow + 9, none⟩ = some (.string q9)) := Lib.hid (fun y hy => ⟨(hy.cell (World.block_lt_of_cell? x2 _ w7.1)).trans w7.1, (hy.cell (World.block_lt_of_cell? x2 _ w8.1)).trans w8.1, (hy.cell (World.block_lt_of_cell? x2 _ w9.1)).trans w9.1⟩)
                    have Hqs := Lib.hid (And.intro hq7 (And.intro hq8 hq9))
                    have hI7 : (7 : Int) < D.length := by omega
                    have hI8 : (8 : Int) < D.length := by omega
                    have hI9 : (9 : Int) < D.length := by omega
                    clear w7 w8 w9 hq7 hq8 hq9
                    obtain ⟨bb, ob, rfl⟩ := HAb.out
                    have hc3 : ∀ wy, (Instr.slice 25 (.slice (some ⟨bb, ob, none⟩) nb cb) none (some (.int .i64 ((t : Nat) : Int))) none).run Tryz.prog wy = .ok (.slice (some ⟨bb, ob, none⟩) t cb) wy := fun wy => slice_hiS _ nb cb t (Nat.le_trans Htn.out Hbeh.out.le) wy
                    with_reducible refine g_mixt 16 (PT.of [(0, 1), (1, 1), (2, 0), (3, 1), (4, 1), (5, 0), (6, 1), (7, 1), (8, 0), (10, 1), (11, 1)] (.fork 9 (PT.of [(12, 2), (13, 1), (14, 2), (15, 1), (16, 3)] .nil) 12 (PT.of [(13, 1)] (.fork 9 (PT.of [(14, 2), (15, 1), (16, 3)] .nil) 14 (PT.of [(9, 2), (15, 1), (16, 3)] .nil))))) (fun w' => w'.cell? ⟨bw, ow + 7, none⟩ = some (.string q7) ∧ w'.cell? ⟨bw, ow + 8, none⟩ = some (.string q8) ∧ w'.cell? ⟨bw, ow + 9, none⟩ = some (.string q9)) (by kernel_rfl) (by kernel_rfl) ?_ ?_
                    · exact HS.out _ (HM.out.below (show Below xA.heap.size xA xA.drew from ⟨rfl, rfl, rfl, Nat.le_refl _, fun _ _ => rfl⟩)).fr
                    intro OPS
                    simp only [PT.of, mixT, nthO, consT, forkT]
                    have HM0 := Lib.hid (HM.out.below (show Below xA.heap.size xA xA.drew from ⟨rfl, rfl, rfl, Nat.le_refl _, fun _ _ => rfl⟩))
                    clear HM
                    generalize xA.drew = y0 at *
                    have hS0 := HS.out _ HM0.out.fr
                    iterate 2 ((with_reducible refine pt_any (v := ?_) ?_ ?_); rotate_left; (rintro _; go_simp; first | done | rfl | (constructor <;> rfl)))
                    iterate 1 ((with_reducible refine pt_val (v := ?_) ?_ ?_ ?_); rotate_left; (rintro _ ⟨h1, h2, h3⟩; go_simp; first | done | rfl | (constructor <;> rfl)); exact hS0)
                    iterate 2 ((with_reducible refine pt_any (v := ?_) ?_ ?_); rotate_left; (rintro _; go_simp; first | done | rfl | (constructor <;> rfl)))
                    iterate 1 ((with_reducible refine pt_val (v := ?_) ?_ ?_ ?_); rotate_left; (rintro _ ⟨h1, h2, h3⟩; go_simp; first | done | rfl | (constructor <;> rfl)); exact hS0)
                    iterate 2 ((with_reducible refine pt_any (v := ?_) ?_ ?_); rotate_left; (rintro _; go_simp; first | done | rfl | (constructor <;> rfl)))
                    iterate 1 ((with_reducible refine pt_val (v := ?_) ?_ ?_ ?_); rotate_left; (rintro _ ⟨h1, h2, h3⟩; go_simp; first | done | rfl | (constructor <;> rfl)); exact hS0)
                    iterate 2 ((with_reducible refine pt_any (v := ?_) ?_ ?_); rotate_left; (rintro _; go_simp; first | done | rfl | (constructor <;> rfl)))
                    with_reducible refine pt_fork ?_ ?_
                    · obtain ⟨dv', wc, hcv, hdat, hBc, hdv1⟩ := bytes_datB y0 q9 z9
                      have hdat' := hdat
                      obtain ⟨Ad, cd, rfl, -, -⟩ := hdat'
                      obtain ⟨nd, hnd⟩ : ∃ nd, nd = (toL q9).length := ⟨_, rfl⟩
                      rw [← hnd] at hcv hdat
                      have Hnd := Lib.hid hnd
                      clear hnd hdv1
                      with_reducible refine l_val (v := .slice Ad nd cd) (w' := wc) ?_ ?_
                      · go_simp
                      have HMc := Lib.hid (HM0.out.below hBc)
                      have Hd1 := Lib.hid hdat
                      clear hcv hdat hBc
                      refine pt_keep (HS.out _ HMc.out.fr) ?_
                      with_reducible refine pt_one ?_
                      have k1 : wc.cell? ⟨b, 7, none⟩ = some (.string ⟨#[]⟩) := (blk_cells HMc.out.row).1 7
                      have k2 : wc.frozen? ⟨b, 7, none⟩ = false := (blk_cells HMc.out.row).2.1 7
                      with_reducible refine l_skip (w' := wc.setCell ⟨b, 7, none⟩ (.string q7)) ?_ ?_
                      · go_simp
                      have HM2 := Lib.hid (HMc.out.set hbx 7 (.string q7))
                      have Hd2 := Lib.hid (HMc.out.dat 7 (.string q7) Hd1.out)
                      clear k1 k2
                      generalize (wc.setCell ⟨b, 7, none⟩ (.string q7)) = y2 at *
                      refine pt_keep (HS.out _ HM2.out.fr) ?_
                      iterate 1 ((with_reducible refine pt_any (v := ?_) ?_ ?_); rotate_left; (rintro _; go_simp; first | done | rfl | (constructor <;> rfl)))
                      with_reducible refine pt_one ?_
                      have k1 : y2.cell? ⟨b, 11, none⟩ = some (.string ⟨#[]⟩) := (blk_cells HM2.out.row).1 11
                      have k2 : y2.frozen? ⟨b, 11, none⟩ = false := (blk_cells HM2.out.row).2.1 11
                      with_reducible refine l_skip (w' := y2.setCell ⟨b, 11, none⟩ (.string q8)) ?_ ?_
                      · go_simp
                      have HM3 := Lib.hid (HM2.out.set hbx 11 (.string q8))
                      have Hd3 := Lib.hid (HM2.out.dat 11 (.string q8) Hd2.out)
                      clear k1 k2
                      generalize (y2.setCell ⟨b, 11, none⟩ (.string q8)) = y3 at *
                      refine pt_keep (HS.out _ HM3.out.fr) ?_
                      iterate 1 ((with_reducible refine pt_any (v := ?_) ?_ ?_); rotate_left; (rintro _; go_simp; first | done | rfl | (constructor <;> rfl)))
                      with_reducible refine pt_three ?_
                      have k1 : y3.cell? ⟨b, 12, none⟩ = some (.slice none 0 0) := (blk_cells HM3.out.row).1 12
                      have k2 : y3.frozen? ⟨b, 12, none⟩ = false := (blk_cells HM3.out.row).2.1 12
                      with_reducible refine l_skip (w' := y3.setCell ⟨b, 12, none⟩ (.slice Ad nd cd)) ?_ ?_
                      · go_simp
                      have HM4 := Lib.hid (HM3.out.set hbx 12 (.slice Ad nd cd))
                      have Hd4 := Lib.hid (HM3.out.dat 12 (.slice Ad nd cd) Hd3.out)
                      clear k1 k2
                      generalize (y3.setCell ⟨b, 12, none⟩ (.slice Ad nd cd)) = y4 at *
                      with_reducible refine pt_last ?_
                      with_reducible refine pt_end ?_
                      simp only [Act.put, List.setIfInBounds_toArray, List.set_cons_zero, List.set_cons_succ]
                      have c6b : y4.drew.cell? ⟨b, 6, none⟩ = some (.slice none 0 0) := (blk_cells HM4.out.row).1 6
                      have HMd := Lib.hid (HM4.out.below (show Below y4.heap.size y4 y4.drew from ⟨rfl, rfl, rfl, Nat.le_refl _, fun _ _ => rfl⟩))
                      have HDd : Hid (DatB y4.drew (.slice Ad nd cd) (toL q9)) := Lib.hid (Hd4.out.keep fun _ _ _ h => h)
                      clear HM4 Hd4
                      go_wp2_with fail
                      with_reducible refine g_mixx [(0, 1), (1, 1), (2, 0), (3, 1), (4, 1), (5, 1), (6, 3), (7, 1), (8, 1), (9, 3)] (fun w' => w'.cell? ⟨b, 6, none⟩ = some (.slice none 0 0)) 0 _ rfl (by kernel_rfl) (by kernel_rfl) ?_ ?_
                      · exact c6b
                      intro OPS3 HD3
                      simp only [mixX, nthO, consX]
                      iterate 2 ((with_reducible refine x_any (v := ?_) ?_ ?_); rotate_left; (rintro _; go_simp; first | done | rfl | (constructor <;> rfl)))
                      iterate 1 ((with_reducible refine x_val (v := ?_) ?_ ?_ ?_); rotate_left; (rintro _ h; go_simp; first | done | rfl | (constructor <;> rfl)); exact c6b)
                      iterate 2 ((with_reducible refine x_any (v := ?_) ?_ ?_); rotate_left; (rintro _; go_simp; first | done | rfl | (constructor <;> rfl)))
                      with_reducible refine x_any (v := .slice (some ⟨bb, ob, none⟩) t cb) (fun wy => ?_) ?_
                      · have hq := hc3 wy
                        go_simp
                      with_reducible refine x_three ?_
                      refine wpList_append_own _ rfl (.tmp 152) (.tmp 155) 25 rfl x2.heap.size 9 iS (.string ByteArray.empty) 1 16 Tryz.underlying25 hiS hzS hsS hbS rfl (by omega) (.slice none 0 0) 0 [] ?_ (World.ownsRow_nil _ _ _ _) ⟨bb, ob, none⟩ t cb ((txs (D.drop 11)).take t) ?_ (by rw [List.length_take, txs_length, HRl.out]; have := Htn.out; omega) (Sl.news (Hbeh.out.keep (Cells.of_below HMd.out.fr)) rfl) (fun u hu => txs_one _ u (List.mem_of_mem_take hu)) (by have := Htn.out; unfold maxLen; omega) (by have := Htn.out; omega) HMd.out.fr.size ?_
                      · simp [Act.eval, Act.put]
                      · simp [Act.eval, Act.put]
                      intro v1 wp hown1 hgrow1 _
                      rw [Nat.zero_add, List.nil_append] at hown1
                      have hBg : Below y4.drew.heap.size y4.drew wp := Below.of_none hgrow1
                      have HMp := Lib.hid (HMd.out.below hBg)
                      have HDp := Lib.hid (HDd.out.keep (Byt.of_below hBg))
                      obtain ⟨Av1, cv1, rfl, -, -, -, -⟩ := own_form hown1
                      have k1 : wp.cell? ⟨b, 6, none⟩ = some (.slice none 0 0) := (blk_cells HMp.out.row).1 6
                      have k2 : wp.frozen? ⟨b, 6, none⟩ = false := (blk_cells HMp.out.row).2.1 6
                      have HMf := Lib.hid (HMp.out.set hbx 6 (.slice Av1 t cv1))
                      have HDf := Lib.hid (HMp.out.dat 6 (.slice Av1 t cv1) HDp.out)
                      have HTf : Hid ((wp.setCell ⟨b, 6, none⟩ (.slice Av1 t cv1)).ownsRow x2.heap.size 9 1 (.slice Av1 t cv1) t ((txs (D.drop 11)).take t)) := Lib.hid (own_keep hown1 fun q c hq => by
                        refine ((Fr.setCell [b] wp ⟨b, 6, none⟩ (.slice Av1 t cv1) (by simp)).block q (lt_of_heap hq) (fun hh => ?_)).trans hq
                        rw [List.mem_singleton.1 hh, HMp.out.row] at hq
                        cases hq)
                      clear hown1 hgrow1 hBg HMd HDd HMp HDp
                      with_reducible refine x_last ?_
                      iterate 2 ((with_reducible refine x_any (v := ?_) ?_ ?_); rotate_left; (rintro _; go_simp; first | done | rfl | (constructor <;> rfl)))
                      with_reducible refine x_three ?_
                      with_reducible refine l_skip (w' := wp.setCell ⟨b, 6, none⟩ (.slice Av1 t cv1)) ?_ ?_
                      · go_simp
                      with_reducible refine x_last ?_
                      with_reducible refine x_end ?_
                      simp only [Act.put, List.setIfInBounds_toArray, List.set_cons_zero, List.set_cons_succ]
                      clear k1 k2 hc3
                      generalize (wp.setCell ⟨b, 6, none⟩ (.slice Av1 t cv1)) = yf at *
                      have HRf : Hid (yf.heap[b]? = some (.cells (opV (x 0) sv (x 1) (x 2) (x 3) (x 4) (.slice Av1 t cv1) q7 false ⟨#[]⟩ ⟨#[]⟩ q8 (.slice Ad nd cd)).toArray 32 (0, 0))) := Lib.hid HMf.out.row
                      have HRA : Hid (yf.heap[w.heap.size]? = some (.cells zOV.toArray 32 (0, 0))) := Lib.hid ((HMf.out.fr.block _ hz2).trans HRx.out)
                      have HBf := Lib.hid (HBx.out.trans (HMf.out.fr.mono HBx.out.size))
                      have hsvo : sv.oneCell' = true := by
                        obtain ⟨Asv, csv, rfl, -, -, -, -⟩ := own_form HMf.out.own
                        rfl
                      have hz5 : (opV (x 0) sv (x 1) (x 2) (x 3) (x 4) (.slice Av1 t cv1) q7 false ⟨#[]⟩ ⟨#[]⟩ q8 (.slice Ad nd cd)).toArray.all (·.oneCell') = true := opV_one hsvo rfl rfl
                      have hz6 : (Tryz.prog.info? 32).map (·.size) = some (opV (x 0) sv (x 1) (x 2) (x 3) (x 4) (.slice Av1 t cv1) q7 false ⟨#[]⟩ ⟨#[]⟩ q8 (.slice Ad nd cd)).toArray.size := sizeOpt
                      have hz7 : (opV (x 0) sv (x 1) (x 2) (x 3) (x 4) (.slice Av1 t cv1) q7 false ⟨#[]⟩ ⟨#[]⟩ q8 (.slice Ad nd cd)).toArray.size = zOV.toArray.size := rfl
                      have hbw2 : b ≠ w.heap.size := by omega
                      obtain ⟨VV, hVV⟩ : ∃ VV, VV = (opV (x 0) sv (x 1) (x 2) (x 3) (x 4) (.slice Av1 t cv1) q7 false ⟨#[]⟩ ⟨#[]⟩ q8 (.slice Ad nd cd)).toArray := ⟨_, rfl⟩
                      rw [← hVV] at HRf hz5 hz6 hz7
                      have HVV := Lib.hid hVV
                      have Hz5 := Lib.hid hz5
                      have Hz6 := Lib.hid hz6
                      have Hz7 := Lib.hid hz7
                      clear hVV hz5 hz6 hz7 hsvo HD3
                      go_wp2_with (first
                        | ((with_reducible refine at_load 32 ?_); refine wpList_load_row rfl 32 _ rfl b rfl 32 VV (0, 0) _ HRf.out Tryz.underlying32 rfl Hz6.out ?_)
                        | ((with_reducible refine at_store 32 ?_); refine wpList_store_row rfl 32 _ _ rfl w.heap.size VV rfl rfl 32 zOV.toArray HRA.out Hz6.out Hz7.out.symm Hz5.out ?_))
                      refine bodyPost_ret (res_cell2 rfl _ _ w.heap.size 32 VV (0, 0) rfl (setRow_heap _ _ _ _ _ _ HRA.out) Tryz.underlying32 rfl Hz6.out) rfl ?_
                      have hbt : ∀ (k : Nat) (cs : Array Value) (ty : TypeId) (fr : Nat × Nat), ty ≠ 32 → yf.heap[k]? = some (.cells cs ty fr) → (yf.setRow w.heap.size VV).heap[k]? = some (.cells cs ty fr) := fun k cs ty fr hty hk => by
                        rw [setRow_other _ _ _ _ (by
                          rintro rfl
                          rw [HRA.out] at hk
                          cases hk
                          exact hty rfl)]
                        exact hk
                      have hK := HK2.out.2.1 rfl
                      rw [HLt.out] at hK
                      have Hp : parseOL (toL s) = (⟨x 0, x 1, x 2, x 3, x 4, false, toL q7, toL q8, toL q9, ((D.drop 11).map toL).take t, z⟩, 0) := by
                        rw [Htail.out, tail_good (x := x) (z := z) Hk.out (by rw [List.length_map, HRl.out]; exact Htn.out) H6.out.1 (fun i hi => by rw [nth5_eq D hi]; exact HKn.out.1 hK.1 i hi) (by rw [HL.out.1]; exact hK.2), H6.out.2, Hqs.out.1, Hqs.out.2.1, Hqs.out.2.2]
                      obtain ⟨A8, c8, h8, hb8, _⟩ := HDf.out.keep (w' := yf.setRow w.heap.size VV) (fun k cur fr hk => hbt k cur _ fr (by decide) hk)
                      obtain ⟨A1, c1, hsv, hS1⟩ := row_sl (own_keep (w' := yf.setRow w.heap.size VV) HMf.out.own fun q cs hq => hbt q cs _ _ (by decide) hq)
                      obtain ⟨A9, c9, hv9, hS9⟩ := row_sl (own_keep (w' := yf.setRow w.heap.size VV) HTf.out fun q cs hq => hbt q cs _ _ (by decide) hq)
                      cases hv9
                      have hTl : ((D.drop 11).take t).length = t := by rw [List.length_take, HRl.out]; have := Htn.out; omega
                      rw [txs_take] at hS9
                      refine ⟨VV, by rw [Hp]; rfl, ?_, below_row HBf.out (Nat.le_refl _) _⟩
                      rw [Hp]
                      refine ⟨A1, Av1, A8, c1, cv1, c8, (D.drop 11).take t, ⟨#[]⟩, ⟨#[]⟩, ?_, ?_, by rw [hTl]; exact hS9, by simp only; rw [List.map_take], hb8⟩
                      · rw [HVV.out, hTl, hsv, h8]
                        simp only [mkS_toL, iV_length]
                      · exact hS1
                    · have k1 : y0.cell? ⟨b, 7, none⟩ = some (.string ⟨#[]⟩) := (blk_cells HM0.out.row).1 7
                      have k2 : y0.frozen? ⟨b, 7, none⟩ = false := (blk_cells HM0.out.row).2.1 7
                      with_reducible refine l_skip (w' := y0.setCell ⟨b, 7, none⟩ (.string q7)) ?_ ?_
                      · go_simp
                      have HM1 := Lib.hid (HM0.out.set hbx 7 (.string q7))
                      clear k1 k2
                      generalize (y0.setCell ⟨b, 7, none⟩ (.string q7)) = y1 at *
                      refine pt_keep (HS.out _ HM1.out.fr) ?_
                      iterate 1 ((with_reducible refine pt_any (v := ?_) ?_ ?_); rotate_left; (rintro _; go_simp; first | done | rfl | (constructor <;> rfl)))
                      with_reducible refine pt_fork ?_ ?_
                      · obtain ⟨dv', wc, hcv, hdat, hBc, hdv1⟩ := bytes_datB y1 q9 z9
                        have hdat' := hdat
                        obtain ⟨Ad, cd, rfl, -, -⟩ := hdat'
                        obtain ⟨nd, hnd⟩ : ∃ nd, nd = (toL q9).length := ⟨_, rfl⟩
                        rw [← hnd] at hcv hdat
                        have Hnd := Lib.hid hnd
                        clear hnd hdv1
                        with_reducible refine l_val (v := .slice Ad nd cd) (w' := wc) ?_ ?_
                        · go_simp
                        have HMc := Lib.hid (HM1.out.below hBc)
                        have Hd2 := Lib.hid hdat
                        clear hcv hdat hBc
                        refine pt_keep (HS.out _ HMc.out.fr) ?_
                        with_reducible refine pt_one ?_
                        have k1 : wc.cell? ⟨b, 11, none⟩ = some (.string ⟨#[]⟩) := (blk_cells HMc.out.row).1 11
                        have k2 : wc.frozen? ⟨b, 11, none⟩ = false := (blk_cells HMc.out.row).2.1 11
                        with_reducible refine l_skip (w' := wc.setCell ⟨b, 11, none⟩ (.string q8)) ?_ ?_
                        · go_simp
                        have HM3 := Lib.hid (HMc.out.set hbx 11 (.string q8))
                        have Hd3 := Lib.hid (HMc.out.dat 11 (.string q8) Hd2.out)
                        clear k1 k2
                        generalize (wc.setCell ⟨b, 11, none⟩ (.string q8)) = y3 at *
                        refine pt_keep (HS.out _ HM3.out.fr) ?_
                        iterate 1 ((with_reducible refine pt_any (v := ?_) ?_ ?_); rotate_left; (rintro _; go_simp; first | done | rfl | (constructor <;> rfl)))
                        with_reducible refine pt_three ?_
                        have k1 : y3.cell? ⟨b, 12, none⟩ = some (.slice none 0 0) := (blk_cells HM3.out.row).1 12
                        have k2 : y3.frozen? ⟨b, 12, none⟩ = false := (blk_cells HM3.out.row).2.1 12
                        with_reducible refine l_skip (w' := y3.setCell ⟨b, 12, none⟩ (.slice Ad nd cd)) ?_ ?_
                        · go_simp
                        have HM4 := Lib.hid (HM3.out.set hbx 12 (.slice Ad nd cd))
                        have Hd4 := Lib.hid (HM3.out.dat 12 (.slice Ad nd cd) Hd3.out)
                        clear k1 k2
                        generalize (y3.setCell ⟨b, 12, none⟩ (.slice Ad nd cd)) = y4 at *
                        with_reducible refine pt_last ?_
                        with_reducible refine pt_end ?_
                        simp only [Act.put, List.setIfInBounds_toArray, List.set_cons_zero, List.set_cons_succ]
                        have c6b : y4.drew.cell? ⟨b, 6, none⟩ = some (.slice none 0 0) := (blk_cells HM4.out.row).1 6
                        have HMd := Lib.hid (HM4.out.below (show Below y4.heap.size y4 y4.drew from ⟨rfl, rfl, rfl, Nat.le_refl _, fun _ _ => rfl⟩))
                        have HDd : Hid (DatB y4.drew (.slice Ad nd cd) (toL q9)) := Lib.hid (Hd4.out.keep fun _ _ _ h => h)
                        clear HM4 Hd4
                        go_wp2_with fail
                        with_reducible refine g_mixx [(0, 1), (1, 1), (2, 0), (3, 1), (4, 1), (5, 1), (6, 3), (7, 1), (8, 1), (9, 3)] (fun w' => w'.cell? ⟨b, 6, none⟩ = some (.slice none 0 0)) 0 _ rfl (by kernel_rfl) (by kernel_rfl) ?_ ?_
                        · exact c6b
                        intro OPS3 HD3
                        simp only [mixX, nthO, consX]
                        iterate 2 ((with_reducible refine x_any (v := ?_) ?_ ?_); rotate_left; (rintro _; go_simp; first | done | rfl | (constructor <;> rfl)))
                        iterate 1 ((with_reducible refine x_val (v := ?_) ?_ ?_ ?_); rotate_left; (rintro _ h; go_simp; first | done | rfl | (constructor <;> rfl)); exact c6b)
                        iterate 2 ((with_reducible refine x_any (v := ?_) ?_ ?_); rotate_left; (rintro _; go_simp; first | done | rfl | (constructor <;> rfl)))
                        with_reducible refine x_any (v := .slice (some ⟨bb, ob, none⟩) t cb) (fun wy => ?_) ?_
                        · have hq := hc3 wy
                          go_simp
                        with_reducible refine x_three ?_
                        refine wpList_append_own _ rfl (.tmp 152) (.tmp 155) 25 rfl x2.heap.size 9 iS (.string ByteArray.empty) 1 16 Tryz.underlying25 hiS hzS hsS hbS rfl (by omega) (.slice none 0 0) 0 [] ?_ (World.ownsRow_nil _ _ _ _) ⟨bb, ob, none⟩ t cb ((txs (D.drop 11)).take t) ?_ (by rw [List.length_take, txs_length, HRl.out]; have := Htn.out; omega) (Sl.news (Hbeh.out.keep (Cells.of_below HMd.out.fr)) rfl) (fun u hu => txs_one _ u (List.mem_of_mem_take hu)) (by have := Htn.out; unfold maxLen; omega) (by have := Htn.out; omega) HMd.out.fr.size ?_
                        · simp [Act.eval, Act.put]
                        · simp [Act.eval, Act.put]
                        intro v1 wp hown1 hgrow1 _
                        rw [Nat.zero_add, List.nil_append] at hown1
                        have hBg : Below y4.drew.heap.size y4.drew wp := Below.of_none hgrow1
                        have HMp := Lib.hid (HMd.out.below hBg)
                        have HDp := Lib.hid (HDd.out.keep (Byt.of_below hBg))
                        obtain ⟨Av1, cv1, rfl, -, -, -, -⟩ := own_form hown1
                        have k1 : wp.cell? ⟨b, 6, none⟩ = some (.slice none 0 0) := (blk_cells HMp.out.row).1 6
                        have k2 : wp.frozen? ⟨b, 6, none⟩ = false := (blk_cells HMp.out.row).2.1 6
                        have HMf := Lib.hid (HMp.out.set hbx 6 (.slice Av1 t cv1))
                        have HDf := Lib.hid (HMp.out.dat 6 (.slice Av1 t cv1) HDp.out)
                        have HTf : Hid ((wp.setCell ⟨b, 6, none⟩ (.slice Av1 t cv1)).ownsRow x2.heap.size 9 1 (.slice Av1 t cv1) t ((txs (D.drop 11)).take t)) := Lib.hid (own_keep hown1 fun q c hq => by
                          refine ((Fr.setCell [b] wp ⟨b, 6, none⟩ (.slice Av1 t cv1) (by simp)).block q (lt_of_heap hq) (fun hh => ?_)).trans hq
                          rw [List.mem_singleton.1 hh, HMp.out.row] at hq
                          cases hq)
                        clear hown1 hgrow1 hBg HMd HDd HMp HDp
                        with_reducible refine x_last ?_
                        iterate 2 ((with_reducible refine x_any (v := ?_) ?_ ?_); rotate_left; (rintro _; go_simp; first | done | rfl | (constructor <;> rfl)))
                        with_reducible refine x_three ?_
                        with_reducible refine l_skip (w' := wp.setCell ⟨b, 6, none⟩ (.slice Av1 t cv1)) ?_ ?_
                        · go_simp
                        with_reducible refine x_last ?_
                        with_reducible refine x_end ?_
                        simp only [Act.put, List.setIfInBounds_toArray, List.set_cons_zero, List.set_cons_succ]
                        clear k1 k2 hc3
                        generalize (wp.setCell ⟨b, 6, none⟩ (.slice Av1 t cv1)) = yf at *
                        have HRf : Hid (yf.heap[b]? = some (.cells (opV (x 0) sv (x 1) (x 2) (x 3) (x 4) (.slice Av1 t cv1) q7 false ⟨#[]⟩ ⟨#[]⟩ q8 (.slice Ad nd cd)).toArray 32 (0, 0))) := Lib.hid HMf.out.row
                        have HRA : Hid (yf.heap[w.heap.size]? = some (.cells zOV.toArray 32 (0, 0))) := Lib.hid ((HMf.out.fr.block _ hz2).trans HRx.out)
                        have HBf := Lib.hid (HBx.out.trans (HMf.out.fr.mono HBx.out.size))
                        have hsvo : sv.oneCell' = true := by
                          obtain ⟨Asv, csv, rfl, -, -, -, -⟩ := own_form HMf.out.own
                          rfl
                        have hz5 : (opV (x 0) sv (x 1) (x 2) (x 3) (x 4) (.slice Av1 t cv1) q7 false ⟨#[]⟩ ⟨#[]⟩ q8 (.slice Ad nd cd)).toArray.all (·.oneCell') = true := opV_one hsvo rfl rfl
                        have hz6 : (Tryz.prog.info? 32).map (·.size) = some (opV (x 0) sv (x 1) (x 2) (x 3) (x 4) (.slice Av1 t cv1) q7 false ⟨#[]⟩ ⟨#[]⟩ q8 (.slice Ad nd cd)).toArray.size := sizeOpt
                        have hz7 : (opV (x 0) sv (x 1) (x 2) (x 3) (x 4) (.slice Av1 t cv1) q7 false ⟨#[]⟩ ⟨#[]⟩ q8 (.slice Ad nd cd)).toArray.size = zOV.toArray.size := rfl
                        have hbw2 : b ≠ w.heap.size := by omega
                        obtain ⟨VV, hVV⟩ : ∃ VV, VV = (opV (x 0) sv (x 1) (x 2) (x 3) (x 4) (.slice Av1 t cv1) q7 false ⟨#[]⟩ ⟨#[]⟩ q8 (.slice Ad nd cd)).toArray := ⟨_, rfl⟩
                        rw [← hVV] at HRf hz5 hz6 hz7
                        have HVV := Lib.hid hVV
                        have Hz5 := Lib.hid hz5
                        have Hz6 := Lib.hid hz6
                        have Hz7 := Lib.hid hz7
                        clear hVV hz5 hz6 hz7 hsvo HD3
                        go_wp2_with (first
                          | ((with_reducible refine at_load 32 ?_); refine wpList_load_row rfl 32 _ rfl b rfl 32 VV (0, 0) _ HRf.out Tryz.underlying32 rfl Hz6.out ?_)
                          | ((with_reducible refine at_store 32 ?_); refine wpList_store_row rfl 32 _ _ rfl w.heap.size VV rfl rfl 32 zOV.toArray HRA.out Hz6.out Hz7.out.symm Hz5.out ?_))
                        refine bodyPost_ret (res_cell2 rfl _ _ w.heap.size 32 VV (0, 0) rfl (setRow_heap _ _ _ _ _ _ HRA.out) Tryz.underlying32 rfl Hz6.out) rfl ?_
                        have hbt : ∀ (k : Nat) (cs : Array Value) (ty : TypeId) (fr : Nat × Nat), ty ≠ 32 → yf.heap[k]? = some (.cells cs ty fr) → (yf.setRow w.heap.size VV).heap[k]? = some (.cells cs ty fr) := fun k cs ty fr hty hk => by
                          rw [setRow_other _ _ _ _ (by
                            rintro rfl
                            rw [HRA.out] at hk
                            cases hk
                            exact hty rfl)]
                          exact hk
                        have hK := HK2.out.2.1 rfl
                        rw [HLt.out] at hK
                        have Hp : parseOL (toL s) = (⟨x 0, x 1, x 2, x 3, x 4, false, toL q7, toL q8, toL q9, ((D.drop 11).map toL).take t, z⟩, 0) := by
                          rw [Htail.out, tail_good (x := x) (z := z) Hk.out (by rw [List.length_map, HRl.out]; exact Htn.out) H6.out.1 (fun i hi => by rw [nth5_eq D hi]; exact HKn.out.1 hK.1 i hi) (by rw [HL.out.1]; exact hK.2), H6.out.2, Hqs.out.1, Hqs.out.2.1, Hqs.out.2.2]
                        obtain ⟨A8, c8, h8, hb8, _⟩ := HDf.out.keep (w' := yf.setRow w.heap.size VV) (fun k cur fr hk => hbt k cur _ fr (by decide) hk)
                        obtain ⟨A1, c1, hsv, hS1⟩ := row_sl (own_keep (w' := yf.setRow w.heap.size VV) HMf.out.own fun q cs hq => hbt q cs _ _ (by decide) hq)
                        obtain ⟨A9, c9, hv9, hS9⟩ := row_sl (own_keep (w' := yf.setRow w.heap.size VV) HTf.out fun q cs hq => hbt q cs _ _ (by decide) hq)
                        cases hv9
                        have hTl : ((D.drop 11).take t).length = t := by rw [List.length_take, HRl.out]; have := Htn.out; omega
                        rw [txs_take] at hS9
                        refine ⟨VV, by rw [Hp]; rfl, ?_, below_row HBf.out (Nat.le_refl _) _⟩
                        rw [Hp]
                        refine ⟨A1, Av1, A8, c1, cv1, c8, (D.drop 11).take t, ⟨#[]⟩, ⟨#[]⟩, ?_, ?_, by rw [hTl]; exact hS9, by simp only; rw [List.map_take], hb8⟩
                        · rw [HVV.out, hTl, hsv, h8]
                          simp only [mkS_toL, iV_length]
                        · exact hS1
                      · have k1 : y1.cell? ⟨b, 11, none⟩ = some (.string ⟨#[]⟩) := (blk_cells HM1.out.row).1 11
                        have k2 : y1.frozen? ⟨b, 11, none⟩ = false := (blk_cells HM1.out.row).2.1 11
                        with_reducible refine l_skip (w' := y1.setCell ⟨b, 11, none⟩ (.string q8)) ?_ ?_
                        · go_simp
                        have HM2 := Lib.hid (HM1.out.set hbx 11 (.string q8))
                        clear k1 k2
                        generalize (y1.setCell ⟨b, 11, none⟩ (.string q8)) = y2 at *
                        refine pt_keep (HS.out _ HM2.out.fr) ?_
                        with_reducible refine pt_one ?_
                        obtain ⟨dv', wc, hcv, hdat, hBc, hdv1⟩ := bytes_datB y2 q9 z9
                        have hdat' := hdat
                        obtain ⟨Ad, cd, rfl, -, -⟩ := hdat'
                        obtain ⟨nd, hnd⟩ : ∃ nd, nd = (toL q9).length := ⟨_, rfl⟩
                        rw [← hnd] at hcv hdat
                        have Hnd := Lib.hid hnd
                        clear hnd hdv1
                        with_reducible refine l_val (v := .slice Ad nd cd) (w' := wc) ?_ ?_
                        · go_simp
                        have HMc := Lib.hid (HM2.out.below hBc)
                        have Hd3 := Lib.hid hdat
                        clear hcv hdat hBc
                        refine pt_keep (HS.out _ HMc.out.fr) ?_
                        iterate 1 ((with_reducible refine pt_any (v := ?_) ?_ ?_); rotate_left; (rintro _; go_simp; first | done | rfl | (constructor <;> rfl)))
                        with_reducible refine pt_three ?_
                        have k1 : wc.cell? ⟨b, 12, none⟩ = some (.slice none 0 0) := (blk_cells HMc.out.row).1 12
                        have k2 : wc.frozen? ⟨b, 12, none⟩ = false := (blk_cells HMc.out.row).2.1 12
                        with_reducible refine l_skip (w' := wc.setCell ⟨b, 12, none⟩ (.slice Ad nd cd)) ?_ ?_
                        · go_simp
                        have HM4 := Lib.hid (HMc.out.set hbx 12 (.slice Ad nd cd))
                        have Hd4 := Lib.hid (HMc.out.dat 12 (.slice Ad nd cd) Hd3.out)
                        clear k1 k2
                        generalize (wc.setCell ⟨b, 12, none⟩ (.slice Ad nd cd)) = y4 at *
                        with_reducible refine pt_last ?_
                        with_reducible refine pt_end ?_
                        simp only [Act.put, List.setIfInBounds_toArray, List.set_cons_zero, List.set_cons_succ]
                        have c6b : y4.drew.cell? ⟨b, 6, none⟩ = some (.slice none 0 0) := (blk_cells HM4.out.row).1 6
                        have HMd := Lib.hid (HM4.out.below (show Below y4.heap.size y4 y4.drew from ⟨rfl, rfl, rfl, Nat.le_refl _, fun _ _ => rfl⟩))
                        have HDd : Hid (DatB y4.drew (.slice Ad nd cd) (toL q9)) := Lib.hid (Hd4.out.keep fun _ _ _ h => h)
                        clear HM4 Hd4
                        go_wp2_with fail
                        with_reducible refine g_mixx [(0, 1), (1, 1), (2, 0), (3, 1), (4, 1), (5, 1), (6, 3), (7, 1), (8, 1), (9, 3)] (fun w' => w'.cell? ⟨b, 6, none⟩ = some (.slice none 0 0)) 0 _ rfl (by kernel_rfl) (by kernel_rfl) ?_ ?_
                        · exact c6b
                        intro OPS3 HD3
                        simp only [mixX, nthO, consX]
                        iterate 2 ((with_reducible refine x_any (v := ?_) ?_ ?_); rotate_left; (rintro _; go_simp; first | done | rfl | (constructor <;> rfl)))
                        iterate 1 ((with_reducible refine x_val (v := ?_) ?_ ?_ ?_); rotate_left; (rintro _ h; go_simp; first | done | rfl | (constructor <;> rfl)); exact c6b)
                        iterate 2 ((with_reducible refine x_any (v := ?_) ?_ ?_); rotate_left; (rintro _; go_simp; first | done | rfl | (constructor <;> rfl)))
                        with_reducible refine x_any (v := .slice (some ⟨bb, ob, none⟩) t cb) (fun wy => ?_) ?_
                        · have hq := hc3 wy
                          go_simp
                        with_reducible refine x_three ?_
                        refine wpList_append_own _ rfl (.tmp 152) (.tmp 155) 25 rfl x2.heap.size 9 iS (.string ByteArray.empty) 1 16 Tryz.underlying25 hiS hzS hsS hbS rfl (by omega) (.slice none 0 0) 0 [] ?_ (World.ownsRow_nil _ _ _ _) ⟨bb, ob, none⟩ t cb ((txs (D.drop 11)).take t) ?_ (by rw [List.length_take, txs_length, HRl.out]; have := Htn.out; omega) (Sl.news (Hbeh.out.keep (Cells.of_below HMd.out.fr)) rfl) (fun u hu => txs_one _ u (List.mem_of_mem_take hu)) (by have := Htn.out; unfold maxLen; omega) (by have := Htn.out; omega) HMd.out.fr.size ?_
                        · simp [Act.eval, Act.put]
                        · simp [Act.eval, Act.put]
                        intro v1 wp hown1 hgrow1 _
                        rw [Nat.zero_add, List.nil_append] at hown1
                        have hBg : Below y4.drew.heap.size y4.drew wp := Below.of_none hgrow1
                        have HMp := Lib.hid (HMd.out.below hBg)
                        have HDp := Lib.hid (HDd.out.keep (Byt.of_below hBg))
                        obtain ⟨Av1, cv1, rfl, -, -, -, -⟩ := own_form hown1
                        have k1 : wp.cell? ⟨b, 6, none⟩ = some (.slice none 0 0) := (blk_cells HMp.out.row).1 6
                        have k2 : wp.frozen? ⟨b, 6, none⟩ = false := (blk_cells HMp.out.row).2.1 6
                        have HMf := Lib.hid (HMp.out.set hbx 6 (.slice Av1 t cv1))
                        have HDf := Lib.hid (HMp.out.dat 6 (.slice Av1 t cv1) HDp.out)
                        have HTf : Hid ((wp.setCell ⟨b, 6, none⟩ (.slice Av1 t cv1)).ownsRow x2.heap.size 9 1 (.slice Av1 t cv1) t ((txs (D.drop 11)).take t)) := Lib.hid (own_keep hown1 fun q c hq => by
                          refine ((Fr.setCell [b] wp ⟨b, 6, none⟩ (.slice Av1 t cv1) (by simp)).block q (lt_of_heap hq) (fun hh => ?_)).trans hq
                          rw [List.mem_singleton.1 hh, HMp.out.row] at hq
                          cases hq)
                        clear hown1 hgrow1 hBg HMd HDd HMp HDp
                        with_reducible refine x_last ?_
                        iterate 2 ((with_reducible refine x_any (v := ?_) ?_ ?_); rotate_left; (rintro _; go_simp; first | done | rfl | (constructor <;> rfl)))
                        with_reducible refine x_three ?_
                        with_reducible refine l_skip (w' := wp.setCell ⟨b, 6, none⟩ (.slice Av1 t cv1)) ?_ ?_
                        · go_simp
                        with_reducible refine x_last ?_
                        with_reducible refine x_end ?_
                        simp only [Act.put, List.setIfInBounds_toArray, List.set_cons_zero, List.set_cons_succ]
                        clear k1 k2 hc3
                        generalize (wp.setCell ⟨b, 6, none⟩ (.slice Av1 t cv1)) = yf at *
                        have HRf : Hid (yf.heap[b]? = some (.cells (opV (x 0) sv (x 1) (x 2) (x 3) (x 4) (.slice Av1 t cv1) q7 false ⟨#[]⟩ ⟨#[]⟩ q8 (.slice Ad nd cd)).toArray 32 (0, 0))) := Lib.hid HMf.out.row
                        have HRA : Hid (yf.heap[w.heap.size]? = some (.cells zOV.toArray 32 (0, 0))) := Lib.hid ((HMf.out.fr.block _ hz2).trans HRx.out)
                        have HBf := Lib.hid (HBx.out.trans (HMf.out.fr.mono HBx.out.size))
                        have hsvo : sv.oneCell' = true := by
                          obtain ⟨Asv, csv, rfl, -, -, -, -⟩ := own_form HMf.out.own
                          rfl
                        have hz5 : (opV (x 0) sv (x 1) (x 2) (x 3) (x 4) (.slice Av1 t cv1) q7 false ⟨#[]⟩ ⟨#[]⟩ q8 (.slice Ad nd cd)).toArray.all (·.oneCell') = true := opV_one hsvo rfl rfl
                        have hz6 : (Tryz.prog.info? 32).map (·.size) = some (opV (x 0) sv (x 1) (x 2) (x 3) (x 4) (.slice Av1 t cv1) q7 false ⟨#[]⟩ ⟨#[]⟩ q8 (.slice Ad nd cd)).toArray.size := sizeOpt
                        have hz7 : (opV (x 0) sv (x 1) (x 2) (x 3) (x 4) (.slice Av1 t cv1) q7 false ⟨#[]⟩ ⟨#[]⟩ q8 (.slice Ad nd cd)).toArray.size = zOV.toArray.size := rfl
                        have hbw2 : b ≠ w.heap.size := by omega
                        obtain ⟨VV, hVV⟩ : ∃ VV, VV = (opV (x 0) sv (x 1) (x 2) (x 3) (x 4) (.slice Av1 t cv1) q7 false ⟨#[]⟩ ⟨#[]⟩ q8 (.slice Ad nd cd)).toArray := ⟨_, rfl⟩
                        rw [← hVV] at HRf hz5 hz6 hz7
                        have HVV := Lib.hid hVV
                        have Hz5 := Lib.hid hz5
                        have Hz6 := Lib.hid hz6
                        have Hz7 := Lib.hid hz7
                        clear hVV hz5 hz6 hz7 hsvo HD3
                        go_wp2_with (first
                          | ((with_reducible refine at_load 32 ?_); refine wpList_load_row rfl 32 _ rfl b rfl 32 VV (0, 0) _ HRf.out Tryz.underlying32 rfl Hz6.out ?_)
                          | ((with_reducible refine at_store 32 ?_); refine wpList_store_row rfl 32 _ _ rfl w.heap.size VV rfl rfl 32 zOV.toArray HRA.out Hz6.out Hz7.out.symm Hz5.out ?_))
                        refine bodyPost_ret (res_cell2 rfl _ _ w.heap.size 32 VV (0, 0) rfl (setRow_heap _ _ _ _ _ _ HRA.out) Tryz.underlying32 rfl Hz6.out) rfl ?_
                        have hbt : ∀ (k : Nat) (cs : Array Value) (ty : TypeId) (fr : Nat × Nat), ty ≠ 32 → yf.heap[k]? = some (.cells cs ty fr) → (yf.setRow w.heap.size VV).heap[k]? = some (.cells cs ty fr) := fun k cs ty fr hty hk => by
                          rw [setRow_other _ _ _ _ (by
                            rintro rfl
                            rw [HRA.out] at hk
                            cases hk
                            exact hty rfl)]
                          exact hk
                        have hK := HK2.out.2.1 rfl
                        rw [HLt.out] at hK
                        have Hp : parseOL (toL s) = (⟨x 0, x 1, x 2, x 3, x 4, false, toL q7, toL q8, toL q9, ((D.drop 11).map toL).take t, z⟩, 0) := by
                          rw [Htail.out, tail_good (x := x) (z := z) Hk.out (by rw [List.length_map, HRl.out]; exact Htn.out) H6.out.1 (fun i hi => by rw [nth5_eq D hi]; exact HKn.out.1 hK.1 i hi) (by rw [HL.out.1]; exact hK.2), H6.out.2, Hqs.out.1, Hqs.out.2.1, Hqs.out.2.2]
                        obtain ⟨A8, c8, h8, hb8, _⟩ := HDf.out.keep (w' := yf.setRow w.heap.size VV) (fun k cur fr hk => hbt k cur _ fr (by decide) hk)
                        obtain ⟨A1, c1, hsv, hS1⟩ := row_sl (own_keep (w' := yf.setRow w.heap.size VV) HMf.out.own fun q cs hq => hbt q cs _ _ (by decide) hq)
                        obtain ⟨A9, c9, hv9, hS9⟩ := row_sl (own_keep (w' := yf.setRow w.heap.size VV) HTf.out fun q cs hq => hbt q cs _ _ (by decide) hq)
                        cases hv9
                        have hTl : ((D.drop 11).take t).length = t := by rw [List.length_take, HRl.out]; have := Htn.out; omega
                        rw [txs_take] at hS9
                        refine ⟨VV, by rw [Hp]; rfl, ?_, below_row HBf.out (Nat.le_refl _) _⟩
                        rw [Hp]
                        refine ⟨A1, Av1, A8, c1, cv1, c8, (D.drop 11).take t, ⟨#[]⟩, ⟨#[]⟩, ?_, ?_, by rw [hTl]; exact hS9, by simp only; rw [List.map_take], hb8⟩
                        · rw [HVV.out, hTl, hsv, h8]
                          simp only [mkS_toL, iV_length]
                        · exact hS1
                  · subst hok
                    have Hp : Hid (parseOL (toL s) = (zOpt, 6)) := Lib.hid (by
                      rw [Htail.out]
                      refine tail_bad Hk.out (by rw [List.length_map, HRl.out]; exact Htn.out) H6.out.1 ?_
                      rcases HK2.out.2.2 rfl with h | h
                      · obtain ⟨i, hi, h2⟩ := HKn.out.2 h
                        exact .inl ⟨i, hi, by rw [nth5_eq D hi]; exact h2⟩
                      · rw [HLt.out] at h
                        exact .inr (by rw [HL.out.1]; exact h))
                    go_wp2_with ((with_reducible refine at_store 32 ?_); refine wpList_store_row rfl 32 _ _ rfl w.heap.size zOV.toArray rfl rfl 32 zOV.toArray HR.out sizeOpt rfl zOV_one ?_)
                    refine bodyPost_ret (res_cell2 rfl _ _ w.heap.size 32 zOV.toArray (0, 0) rfl (setRow_heap _ _ _ _ _ _ HR.out) Tryz.underlying32 rfl sizeOpt) rfl ?_
                    exact po_zero Hp.out (below_row HB.out (Nat.le_refl _) _)
        · by_cases h1 : q6.toList = [49]
          · have hb0 : (q6.toList == [48]) = false := by rw [h1]; rfl
            have hb1 : (q6.toList == [49]) = true := by rw [h1]; rfl
            have H6 : Hid ((toL q6 = [48] ∨ toL q6 = [49]) ∧ decide (toL q6 = [49]) = true) := Lib.hid (by rw [← toList_toL, h1]; exact ⟨.inr rfl, rfl⟩)
            clear h1 h0
            go_wp2_with fail
            clear hc0 hlt0 hr hrb hI10 hI6 hcut hb0 Hnum
            refine (numbers_any (x2.alloc (.cells zOV.toArray 32)) x2.heap.size).mono ?_
            rintro e x4 ⟨rfl, hg4, hB4⟩
            have hb4 : x4.heap[x2.heap.size]? = some (.cells (rowN (fun _ => 0) (.slice none 0 0)).toArray 32 (0, 0)) := (hB4.block _ (by simp)).trans (heap_alloc_new x2 _)
            have hB24 : Below x2.heap.size x2 x4 := ((Below.refl x2.heap.size x2).alloc (Nat.le_refl _) _).trans (hB4.mono (by simp))
            obtain ⟨b, hb⟩ : ∃ b, b = x2.heap.size := ⟨_, rfl⟩
            obtain ⟨g, hg⟩ : ∃ g, g = (x2.alloc (.cells zOV.toArray 32)).heap.size := ⟨_, rfl⟩
            have hg' : (x2.alloc (.cells #[.int .i64 0, .slice none 0 0, .int .i64 0, .int .i64 0, .int .i64 0, .int .i64 0, .slice none 0 0, .string ⟨#[]⟩, .bool false, .string ⟨#[]⟩, .string ⟨#[]⟩, .string ⟨#[]⟩, .slice none 0 0] 32)).heap.size = g := hg.symm
            rw [← hg] at hg4 ⊢
            rw [← hb] at hg4 hb4 ⊢
            have hbx : x2.heap.size ≤ b := by omega
            have Hg4 := Lib.hid hg4
            have Hb4 := Lib.hid hb4
            have HB24 := Lib.hid hB24
            clear hg4 hb4 hB24 hB4 hb hg hg'
            go_wp2_with fail
            go_loopw [11, 83] (fun okv iv wr => PoR1 x2 b g (fun i => toL (D.getD (i + 1) ⟨#[]⟩)) okv iv wr) (fun _ iv _ => 5 - (intOf iv).toNat)
            case atStart => exact ⟨0, true, fun _ => 0, by omega, rfl, rfl, ⟨fun _ i hi => by omega, fun h => by cases h⟩, Hb4.out, Hg4.out, HB24.out⟩
            case round =>
              clear Hb4 Hg4 HB24
              obtain ⟨j, ok, x, hj, rfl, rfl, hk, hb, hg, hB⟩ := hrel
              have HKn := Lib.hid hk
              have Hb := Lib.hid hb
              have Hg := Lib.hid hg
              have HBr := Lib.hid hB
              clear hk hb hg hB
              by_cases hlt : j < 5
              · have cg : wr.cell? ⟨g, j, none⟩ = some (.pointer (some ⟨b, offN5 j, none⟩)) := ((blk_cells Hg.out).1 j).trans (numPtrs_at b hlt)
                obtain ⟨hcw, hqz⟩ := Hword.out (j + 1) (by omega)
                have cw : wr.cell? ⟨bw, ow + (j + 1), none⟩ = some (.string (D.getD (j + 1) ⟨#[]⟩)) := (HBr.out.cell (World.block_lt_of_cell? x2 _ hcw)).trans hcw
                obtain ⟨q, hq⟩ : ∃ q, q = D.getD (j + 1) ⟨#[]⟩ := ⟨_, rfl⟩
                rw [← hq] at cw hqz
                have Hq := Lib.hid hq
                have hjI : (j : Int) < 5 := by omega
                have hjr : (0 : Int) ≤ j := by omega
                have hj1 : (0 : Int) ≤ 1 + (j : Int) := by omega
                have hj2 : 1 + (j : Int) < D.length := by omega
                have hjt : (1 + (j : Int)).toNat = j + 1 := by omega
                have hjw : IntKind.i64.wrap (1 + (j : Int)) = 1 + (j : Int) := by rw [IntKind.wrap_i64]; omega
                clear hcw hq
                go_wp2_with fail
                refine (number_any q hqz ((Hw.out.below HB.out).below HBr.out)).mono ?_
                rintro e y ⟨hBy, n', is', rfl, hn'⟩
                have hby := (hBy.block _ (lt_of_heap Hb.out)).trans Hb.out
                have hgy := (hBy.block _ (lt_of_heap Hg.out)).trans Hg.out
                have hBy2 := HBr.out.trans (hBy.mono HBr.out.size)
                have c1 : y.cell? ⟨b, offN5 j, none⟩ = some (.int .i64 (x j)) := ((blk_cells hby).1 _).trans (rowN_at x _ hlt)
                have c2 : y.frozen? ⟨b, offN5 j, none⟩ = false := (blk_cells hby).2.1 _
                have hfr := Fr.setCell [b] y ⟨b, offN5 j, none⟩ (.int .i64 n') (by simp)
                have hm : PoR1 x2 b g (fun i => toL (D.getD (i + 1) ⟨#[]⟩)) (.bool (ok && is')) (.int .i64 ((j : Int) + 1)) (y.setCell ⟨b, offN5 j, none⟩ (.int .i64 n')) := by
                  refine ⟨j + 1, ok && is', updN x j n', by omega, by go_num, rfl, HKn.out.next (show numP (toL (D.getD (j + 1) ⟨#[]⟩)) = _ from by rw [← Hq.out]; exact hn'), ?_, ?_, hBy2.trans (hfr.below hBy2.size (by intro k hk; rw [List.mem_singleton.1 hk]; exact hbx))⟩
                  · rw [heap_setCell_at hby, rowN_set x _ hlt]
                  · refine (hfr.block g (lt_of_heap hgy) (fun hh => ?_)).trans hgy
                    rw [List.mem_singleton.1 hh, hby] at hgy
                    cases hgy
                have Hm := Lib.hid hm
                clear hm hfr hBy2 hgy hby hBy hn' Hb Hg HBr HKn cw cg
                rcases Bool.eq_false_or_eq_true ok with hok | hok
                · subst hok
                  go_wp2_with fail
                  exact ⟨Hm.out, by simp [intOf]; omega⟩
                · subst hok
                  go_wp2_with fail
                  exact ⟨Hm.out, by simp [intOf]; omega⟩
              · have hj5 : j = 5 := by omega
                subst hj5
                clear hlt hj Hg
                obtain ⟨E, hE⟩ : ∃ E, E = (D.drop 11).drop t := ⟨_, rfl⟩
                have hEl : E.length = nb - t := by rw [hE, List.length_drop, HRl.out]
                have hSE : Sl x2 (cutA Ab cb t) (cb - t) E.length 1 (txs E) := by
                  rw [hEl, hE, ← txs_drop]
                  exact Hbeh.out.dropS htn
                have hEz : ∀ p ∈ E, p.size ≤ 1048576 := fun p hp => HDz.out p (List.mem_of_mem_drop (List.mem_of_mem_drop (by rw [← hE]; exact hp)))
                have hcut2 : (Instr.slice 25 (.slice Ab nb cb) (some (.int .i64 ((t : Nat) : Int))) none none).run Tryz.prog wr = .ok (.slice (cutA Ab cb t) (nb - t) (cb - t)) wr := slice_loS Ab nb cb t htn wr
                obtain ⟨m, hm⟩ : ∃ m, m = nb - t := ⟨_, rfl⟩
                have hmz : m ≤ 1048576 := by omega
                rw [← hm] at hcut2 hEl
                rw [hEl] at hSE
                generalize cutA Ab cb t = A2 at *
                generalize cb - t = c2 at *
                have HE := Lib.hid hE
                have HEl := Lib.hid hEl
                have HSE := Lib.hid hSE
                have HEz := Lib.hid hEz
                clear hm hE hEl hSE hEz
                have HL : Hid ((((D.drop 11).map toL).drop t) = E.map toL ∧ (E.map toL).length = m) := Lib.hid ⟨by rw [← List.map_drop, HE.out], by rw [List.length_map, HEl.out]⟩
                have Htn := Lib.hid htn
                clear htn hgt
                go_wp2_with fail
                clear hcut2
                go_loopw [11, 109] (fun okv iv wr => PoR2 x2 b (E.map toL) x ok okv iv wr) (fun _ iv _ => m - (intOf iv).toNat)
                case atStart => exact ⟨0, ok, [], .slice none 0 0, by omega, rfl, rfl, ⟨rfl, fun h => ⟨h, rfl⟩, fun h => .inl h⟩, Hb.out, World.ownsRow_nil _ _ _ _, HBr.out⟩
                case round =>
                  clear Hb HBr
                  obtain ⟨j, oj, z, sv, hj, rfl, rfl, hk, hb, hown, hB⟩ := hrel
                  have HK2 := Lib.hid hk
                  have Hb := Lib.hid hb
                  have Hown := Lib.hid hown
                  have HBr := Lib.hid hB
                  have hzl : z.length = j := hk.1
                  rw [HL.out.2] at hj
                  have hzm : z.length ≤ 1048576 := by omega
                  clear hzl
                  clear hk hb hown hB
                  by_cases hlt : j < m
                  · obtain ⟨bt, ot, q, hA2, hq, hc⟩ := str_at (x := E) (w := x2) (by rw [HEl.out]; exact HSE.out) (i := j) (by rw [HEl.out]; exact hlt)
                    subst hA2
                    have hqz := HEz.out q (List.mem_of_getElem? hq)
                    have cw : wr.cell? ⟨bt, ot + j, none⟩ = some (.string q) := (HBr.out.cell (World.block_lt_of_cell? x2 _ hc)).trans hc
                    have Hql : Hid ((E.map toL)[j]? = some (toL q)) := Lib.hid (by rw [List.getElem?_map, hq]; rfl)
                    have hjI : (j : Int) < m := by omega
                    have hjr : (0 : Int) ≤ j := by omega
                    clear hq hc
                    go_wp2_with fail
                    refine (number_any q hqz ((Hw.out.below HB.out).below HBr.out)).mono ?_
                    rintro e y ⟨hBy, n', is', rfl, hn'⟩
                    have hby := (hBy.block _ (lt_of_heap Hb.out)).trans Hb.out
                    have hBy2 := HBr.out.trans (hBy.mono HBr.out.size)
                    have hoy := own_keep Hown.out (fun q c hq => (hBy.block q (lt_of_heap hq)).trans hq)
                    have c1 : y.cell? ⟨b, 1, none⟩ = some sv := (blk_cells hby).1 1
                    have hyz := hBy2.size
                    have Hk3 := Lib.hid (HK2.out.next Hql.out hn')
                    have Hby := Lib.hid hby
                    have HBy2 := Lib.hid hBy2
                    have Hoy := Lib.hid hoy
                    obtain ⟨Asv, csv, rfl, -, -, -, -⟩ := own_form hoy
                    clear hby hBy2 hoy hBy hn' HBr Hb Hown HK2 cw Hql
                    have hfin : ∀ v1 wp, wp.ownsRow x2.heap.size 3 1 v1 (z.length + 1) (iV z ++ [.int .i64 n']) → (y.alloc (.cells #[.int .i64 n'] 3)).grownBy wp (Value.slice Asv z.length csv).ownBlock → (wp.cell? ⟨b, 1, none⟩ = some (.slice Asv z.length csv) ∧ wp.frozen? ⟨b, 1, none⟩ = false) ∧ PoR2 x2 b (E.map toL) x ok (.bool (oj && is')) (.int .i64 ((j : Int) + 1)) (wp.setCell ⟨b, 1, none⟩ v1) := fun v1 wp ho hg => by
                      have hb5 : wp.heap[b]? = some (.cells (rowN x (.slice Asv z.length csv)).toArray 32 (0, 0)) := by
                        refine (hg.block b (by simp; have := lt_of_heap Hby.out; omega) (fun e => ?_)).trans ((Below.heap_alloc _ _ _ (lt_of_heap Hby.out)).trans Hby.out)
                        obtain ⟨_, cur, hcur⟩ := own_blk Hoy.out b e.symm
                        rw [Hby.out] at hcur
                        cases hcur
                      have hB5 : Below x2.heap.size x2 wp := (HBy2.out.alloc hyz (.cells #[.int .i64 n'] 3)).grown hg (by simp; omega) (fun q hq => (own_blk Hoy.out q hq).1)
                      have hfr := Fr.setCell [b] wp ⟨b, 1, none⟩ v1 (by simp)
                      refine ⟨⟨(blk_cells hb5).1 1, (blk_cells hb5).2.1 1⟩, j + 1, oj && is', z ++ [n'], v1, by rw [HL.out.2]; omega, by go_num, rfl, Hk3.out, ?_, ?_, hB5.trans (hfr.below hB5.size (by intro k hk; rw [List.mem_singleton.1 hk]; exact hbx))⟩
                      · rw [heap_setCell_at hb5, rowN_sv]
                      · rw [List.length_append, show iV (z ++ [n']) = iV z ++ [.int .i64 n'] by simp [iV]]
                        refine own_keep ho fun q c hq => ?_
                        refine (hfr.block q (lt_of_heap hq) (fun hh => ?_)).trans hq
                        rw [List.mem_singleton.1 hh, hb5] at hq
                        cases hq
                    have Hfin := Lib.hid hfin
                    clear hfin
                    rcases Bool.eq_false_or_eq_true oj with hok | hok
                    · subst hok
                      go_wp2_with (at_builtin; refine wpList_append_own _ rfl (.tmp 119) (.tmp 121) 22 rfl x2.heap.size 3 iI (.int .i64 0) 1 8 Tryz.underlying22 hiI hzI hsI hbI rfl (by omega) (.slice Asv z.length csv) z.length (iV z) rfl (Hoy.out.alloc _) ⟨y.heap.size, 0, none⟩ 1 1 [.int .i64 n'] rfl rfl (fun j v hv => World.news_of_block (w := y.alloc _) (heap_alloc_new y _) j v hv) (by intro u hu; rw [List.mem_singleton.1 hu]; rfl) (by unfold maxLen; omega) (by omega) (by simp; omega) ?_)
                      intro v1 wp hown1 hgrow1 _
                      obtain ⟨⟨k1, k2⟩, hm⟩ := Hfin.out v1 wp hown1 hgrow1
                      obtain ⟨Av1, cv1, rfl, -, -, -, -⟩ := own_form hown1
                      have Hm := Lib.hid hm
                      clear hm hown1 hgrow1 Hfin
                      go_wp2_with fail
                      exact ⟨⟨_, _, _, _, _, _, _, _, _, _, _, _, _, _, _, _, _, _, _, _, _, _, _, _, Hm.out, rfl⟩, by simp [intOf]; omega⟩
                    · subst hok
                      go_wp2_with (at_builtin; refine wpList_append_own _ rfl (.tmp 119) (.tmp 121) 22 rfl x2.heap.size 3 iI (.int .i64 0) 1 8 Tryz.underlying22 hiI hzI hsI hbI rfl (by omega) (.slice Asv z.length csv) z.length (iV z) rfl (Hoy.out.alloc _) ⟨y.heap.size, 0, none⟩ 1 1 [.int .i64 n'] rfl rfl (fun j v hv => World.news_of_block (w := y.alloc _) (heap_alloc_new y _) j v hv) (by intro u hu; rw [List.mem_singleton.1 hu]; rfl) (by unfold maxLen; omega) (by omega) (by simp; omega) ?_)
                      intro v1 wp hown1 hgrow1 _
                      obtain ⟨⟨k1, k2⟩, hm⟩ := Hfin.out v1 wp hown1 hgrow1
                      obtain ⟨Av1, cv1, rfl, -, -, -, -⟩ := own_form hown1
                      have Hm := Lib.hid hm
                      clear hm hown1 hgrow1 Hfin
                      go_wp2_with fail
                      exact ⟨⟨_, _, _, _, _, _, _, _, _, _, _, _, _, _, _, _, _, _, _, _, _, _, _, _, Hm.out, rfl⟩, by simp [intOf]; omega⟩
                  · have hjm : j = m := by omega
                    subst hjm
                    have HLt : Hid ((E.map toL).take j = E.map toL) := Lib.hid (List.take_of_length_le (by rw [HL.out.2]; exact Nat.le_refl _))
                    have HR9 := Lib.hid ((HBr.out.block _ hz2).trans HR.out)
                    have HB9 := Lib.hid (HB.out.trans (HBr.out.mono HB.out.size))
                    have HRx := HR
                    have HBx := HB
                    clear HR HB
                    have HR := HR9
                    have HB := HB9
                    clear HR9 HB9
                    rcases Bool.eq_false_or_eq_true oj with hok | hok
                    · subst hok
                      have h8 : wr.cell? ⟨b, 8, none⟩ = some (.bool false) := (blk_cells Hb.out).1 8
                      have h8f : wr.frozen? ⟨b, 8, none⟩ = false := (blk_cells Hb.out).2.1 8
                      have HM0 : Hid (PoM x2 b (rowN x sv) z sv wr) := Lib.hid ⟨Hb.out, Hown.out, HBr.out⟩
                      have HM := Lib.hid (HM0.out.set hbx 8 (.bool true))
                      clear Hb Hown HBr HM0
                      go_wp2_with fail
                      clear h8 h8f
                      generalize (wr.setCell ⟨b, 8, none⟩ (.bool true)) = xA at *
                      obtain ⟨q7, hq7⟩ : ∃ q, q = D.getD 7 ⟨#[]⟩ := ⟨_, rfl⟩
                      obtain ⟨q8, hq8⟩ : ∃ q, q = D.getD 8 ⟨#[]⟩ := ⟨_, rfl⟩
                      obtain ⟨q9, hq9⟩ : ∃ q, q = D.getD 9 ⟨#[]⟩ := ⟨_, rfl⟩
                      have w7 := Hword.out 7 (by omega)
                      have w8 := Hword.out 8 (by omega)
                      have w9 := Hword.out 9 (by omega)
                      rw [← hq7] at w7
                      rw [← hq8] at w8
                      rw [← hq9] at w9
                      have z9 := w9.2
                      have HS : Hid (∀ y, Below x2.heap.size x2 y → y.cell? ⟨bw, ow + 7, none⟩ = some (.string q7) ∧ y.cell? ⟨bw, ow + 8, none⟩ = some (.string q8) ∧ y.cell? ⟨bw, ow + 9, none⟩ = some (.string q9)) := Lib.hid (fun y hy => ⟨(hy.cell (World.block_lt_of_cell? x2 _ w7.1)).trans w7.1, (hy.cell (World.block_lt_of_cell? x2 _ w8.1)).trans w8.1, (hy.cell (World.block_lt_of_cell? x2 _ w9.1)).trans w9.1⟩)
                      have Hqs := Lib.hid (And.intro hq7 (And.intro hq8 hq9))
                      have hI7 : (7 : Int) < D.length := by omega
                      have hI8 : (8 : Int) < D.length := by omega
                      have hI9 : (9 : Int) < D.length := by omega
                      clear w7 w8 w9 hq7 hq8 hq9
                      obtain ⟨bb, ob, rfl⟩ := HAb.out
                      have hc3 : ∀ wy, (Instr.slice 25 (.slice (some ⟨bb, ob, none⟩) nb cb) none (some (.int .i64 ((t : Nat) : Int))) none).run Tryz.prog wy = .ok (.slice (some ⟨bb, ob, none⟩) t cb) wy := fun wy => slice_hiS _ nb cb t (Nat.le_trans Htn.out Hbeh.out.le) wy
                      with_reducible refine g_mixt 16 (PT.of [(0, 1), (1, 1), (2, 0), (3, 1), (4, 1), (5, 0), (6, 1), (7, 1), (8, 0), (10, 1), (11, 1)] (.fork 9 (PT.of [(12, 2), (13, 1), (14, 2), (15, 1), (16, 3)] .nil) 12 (PT.of [(13, 1)] (.fork 9 (PT.of [(14, 2), (15, 1), (16, 3)] .nil) 14 (PT.of [(9, 2), (15, 1), (16, 3)] .nil))))) (fun w' => w'.cell? ⟨bw, ow + 7, none⟩ = some (.string q7) ∧ w'.cell? ⟨bw, ow + 8, none⟩ = some (.string q8) ∧ w'.cell? ⟨bw, ow + 9, none⟩ = some (.string q9)) (by kernel_rfl) (by kernel_rfl) ?_ ?_
                      · exact HS.out _ (HM.out.below (show Below xA.heap.size xA xA.drew from ⟨rfl, rfl, rfl, Nat.le_refl _, fun _ _ => rfl⟩)).fr
                      intro OPS
                      simp only [PT.of, mixT, nthO, consT, forkT]
                      have HM0 := Lib.hid (HM.out.below (show Below xA.heap.size xA xA.drew from ⟨rfl, rfl, rfl, Nat.le_refl _, fun _ _ => rfl⟩))
                      clear HM
                      generalize xA.drew = y0 at *
                      have hS0 := HS.out _ HM0.out.fr
                      iterate 2 ((with_reducible refine pt_any (v := ?_) ?_ ?_); rotate_left; (rintro _; go_simp; first | done | rfl | (constructor <;> rfl)))
                      iterate 1 ((with_reducible refine pt_val (v := ?_) ?_ ?_ ?_); rotate_left; (rintro _ ⟨h1, h2, h3⟩; go_simp; first | done | rfl | (constructor <;> rfl)); exact hS0)
                      iterate 2 ((with_reducible refine pt_any (v := ?_) ?_ ?_); rotate_left; (rintro _; go_simp; first | done | rfl | (constructor <;> rfl)))
                      iterate 1 ((with_reducible refine pt_val (v := ?_) ?_ ?_ ?_); rotate_left; (rintro _ ⟨h1, h2, h3⟩; go_simp; first | done | rfl | (constructor <;> rfl)); exact hS0)
                      iterate 2 ((with_reducible refine pt_any (v := ?_) ?_ ?_); rotate_left; (rintro _; go_simp; first | done | rfl | (constructor <;> rfl)))
                      iterate 1 ((with_reducible refine pt_val (v := ?_) ?_ ?_ ?_); rotate_left; (rintro _ ⟨h1, h2, h3⟩; go_simp; first | done | rfl | (constructor <;> rfl)); exact hS0)
                      iterate 2 ((with_reducible refine pt_any (v := ?_) ?_ ?_); rotate_left; (rintro _; go_simp; first | done | rfl | (constructor <;> rfl)))
                      with_reducible refine pt_fork ?_ ?_
                      · obtain ⟨dv', wc, hcv, hdat, hBc, hdv1⟩ := bytes_datB y0 q9 z9
                        have hdat' := hdat
                        obtain ⟨Ad, cd, rfl, -, -⟩ := hdat'
                        obtain ⟨nd, hnd⟩ : ∃ nd, nd = (toL q9).length := ⟨_, rfl⟩
                        rw [← hnd] at hcv hdat
                        have Hnd := Lib.hid hnd
                        clear hnd hdv1
                        with_reducible refine l_val (v := .slice Ad nd cd) (w' := wc) ?_ ?_
                        · go_simp
                        have HMc := Lib.hid (HM0.out.below hBc)
                        have Hd1 := Lib.hid hdat
                        clear hcv hdat hBc
                        refine pt_keep (HS.out _ HMc.out.fr) ?_
                        with_reducible refine pt_one ?_
                        have k1 : wc.cell? ⟨b, 7, none⟩ = some (.string ⟨#[]⟩) := (blk_cells HMc.out.row).1 7
                        have k2 : wc.frozen? ⟨b, 7, none⟩ = false := (blk_cells HMc.out.row).2.1 7
                        with_reducible refine l_skip (w' := wc.setCell ⟨b, 7, none⟩ (.string q7)) ?_ ?_
                        · go_simp
                        have HM2 := Lib.hid (HMc.out.set hbx 7 (.string q7))
                        have Hd2 := Lib.hid (HMc.out.dat 7 (.string q7) Hd1.out)
                        clear k1 k2
                        generalize (wc.setCell ⟨b, 7, none⟩ (.string q7)) = y2 at *
                        refine pt_keep (HS.out _ HM2.out.fr) ?_
                        iterate 1 ((with_reducible refine pt_any (v := ?_) ?_ ?_); rotate_left; (rintro _; go_simp; first | done | rfl | (constructor <;> rfl)))
                        with_reducible refine pt_one ?_
                        have k1 : y2.cell? ⟨b, 11, none⟩ = some (.string ⟨#[]⟩) := (blk_cells HM2.out.row).1 11
                        have k2 : y2.frozen? ⟨b, 11, none⟩ = false := (blk_cells HM2.out.row).2.1 11
                        with_reducible refine l_skip (w' := y2.setCell ⟨b, 11, none⟩ (.string q8)) ?_ ?_
                        · go_simp
                        have HM3 := Lib.hid (HM2.out.set hbx 11 (.string q8))
                        have Hd3 := Lib.hid (HM2.out.dat 11 (.string q8) Hd2.out)
                        clear k1 k2
                        generalize (y2.setCell ⟨b, 11, none⟩ (.string q8)) = y3 at *
                        refine pt_keep (HS.out _ HM3.out.fr) ?_
                        iterate 1 ((with_reducible refine pt_any (v := ?_) ?_ ?_); rotate_left; (rintro _; go_simp; first | done | rfl | (constructor <;> rfl)))
                        with_reducible refine pt_three ?_
                        have k1 : y3.cell? ⟨b, 12, none⟩ = some (.slice none 0 0) := (blk_cells HM3.out.row).1 12
                        have k2 : y3.frozen? ⟨b, 12, none⟩ = false := (blk_cells HM3.out.row).2.1 12
                        with_reducible refine l_skip (w' := y3.setCell ⟨b, 12, none⟩ (.slice Ad nd cd)) ?_ ?_
                        · go_simp
                        have HM4 := Lib.hid (HM3.out.set hbx 12 (.slice Ad nd cd))
                        have Hd4 := Lib.hid (HM3.out.dat 12 (.slice Ad nd cd) Hd3.out)
                        clear k1 k2
                        generalize (y3.setCell ⟨b, 12, none⟩ (.slice Ad nd cd)) = y4 at *
                        with_reducible refine pt_last ?_
                        with_reducible refine pt_end ?_
                        simp only [Act.put, List.setIfInBounds_toArray, List.set_cons_zero, List.set_cons_succ]
                        have c6b : y4.drew.cell? ⟨b, 6, none⟩ = some (.slice none 0 0) := (blk_cells HM4.out.row).1 6
                        have HMd := Lib.hid (HM4.out.below (show Below y4.heap.size y4 y4.drew from ⟨rfl, rfl, rfl, Nat.le_refl _, fun _ _ => rfl⟩))
                        have HDd : Hid (DatB y4.drew (.slice Ad nd cd) (toL q9)) := Lib.hid (Hd4.out.keep fun _ _ _ h => h)
                        clear HM4 Hd4
                        go_wp2_with fail
                        with_reducible refine g_mixx [(0, 1), (1, 1), (2, 0), (3, 1), (4, 1), (5, 1), (6, 3), (7, 1), (8, 1), (9, 3)] (fun w' => w'.cell? ⟨b, 6, none⟩ = some (.slice none 0 0)) 0 _ rfl (by kernel_rfl) (by kernel_rfl) ?_ ?_
                        · exact c6b
                        intro OPS3 HD3
                        simp only [mixX, nthO, consX]
                        iterate 2 ((with_reducible refine x_any (v := ?_) ?_ ?_); rotate_left; (rintro _; go_simp; first | done | rfl | (constructor <;> rfl)))
                        iterate 1 ((with_reducible refine x_val (v := ?_) ?_ ?_ ?_); rotate_left; (rintro _ h; go_simp; first | done | rfl | (constructor <;> rfl)); exact c6b)
                        iterate 2 ((with_reducible refine x_any (v := ?_) ?_ ?_); rotate_left; (rintro _; go_simp; first | done | rfl | (constructor <;> rfl)))
                        with_reducible refine x_any (v := .slice (some ⟨bb, ob, none⟩) t cb) (fun wy => ?_) ?_
                        · have hq := hc3 wy
                          go_simp
                        with_reducible refine x_three ?_
                        refine wpList_append_own _ rfl (.tmp 152) (.tmp 155) 25 rfl x2.heap.size 9 iS (.string ByteArray.empty) 1 16 Tryz.underlying25 hiS hzS hsS hbS rfl (by omega) (.slice none 0 0) 0 [] ?_ (World.ownsRow_nil _ _ _ _) ⟨bb, ob, none⟩ t cb ((txs (D.drop 11)).take t) ?_ (by rw [List.length_take, txs_length, HRl.out]; have := Htn.out; omega) (Sl.news (Hbeh.out.keep (Cells.of_below HMd.out.fr)) rfl) (fun u hu => txs_one _ u (List.mem_of_mem_take hu)) (by have := Htn.out; unfold maxLen; omega) (by have := Htn.out; omega) HMd.out.fr.size ?_
                        · simp [Act.eval, Act.put]
                        · simp [Act.eval, Act.put]
                        intro v1 wp hown1 hgrow1 _
                        rw [Nat.zero_add, List.nil_append] at hown1
                        have hBg : Below y4.drew.heap.size y4.drew wp := Below.of_none hgrow1
                        have HMp := Lib.hid (HMd.out.below hBg)
                        have HDp := Lib.hid (HDd.out.keep (Byt.of_below hBg))
                        obtain ⟨Av1, cv1, rfl, -, -, -, -⟩ := own_form hown1
                        have k1 : wp.cell? ⟨b, 6, none⟩ = some (.slice none 0 0) := (blk_cells HMp.out.row).1 6
                        have k2 : wp.frozen? ⟨b, 6, none⟩ = false := (blk_cells HMp.out.row).2.1 6
                        have HMf := Lib.hid (HMp.out.set hbx 6 (.slice Av1 t cv1))
                        have HDf := Lib.hid (HMp.out.dat 6 (.slice Av1 t cv1) HDp.out)
                        have HTf : Hid ((wp.setCell ⟨b, 6, none⟩ (.slice Av1 t cv1)).ownsRow x2.heap.size 9 1 (.slice Av1 t cv1) t ((txs (D.drop 11)).take t)) := Lib.hid (own_keep hown1 fun q c hq => by
                          refine ((Fr.setCell [b] wp ⟨b, 6, none⟩ (.slice Av1 t cv1) (by simp)).block q (lt_of_heap hq) (fun hh => ?_)).trans hq
                          rw [List.mem_singleton.1 hh, HMp.out.row] at hq
                          cases hq)
                        clear hown1 hgrow1 hBg HMd HDd HMp HDp
                        with_reducible refine x_last ?_
                        iterate 2 ((with_reducible refine x_any (v := ?_) ?_ ?_); rotate_left; (rintro _; go_simp; first | done | rfl | (constructor <;> rfl)))
                        with_reducible refine x_three ?_
                        with_reducible refine l_skip (w' := wp.setCell ⟨b, 6, none⟩ (.slice Av1 t cv1)) ?_ ?_
                        · go_simp
                        with_reducible refine x_last ?_
                        with_reducible refine x_end ?_
                        simp only [Act.put, List.setIfInBounds_toArray, List.set_cons_zero, List.set_cons_succ]
                        clear k1 k2 hc3
                        generalize (wp.setCell ⟨b, 6, none⟩ (.slice Av1 t cv1)) = yf at *
                        have HRf : Hid (yf.heap[b]? = some (.cells (opV (x 0) sv (x 1) (x 2) (x 3) (x 4) (.slice Av1 t cv1) q7 true ⟨#[]⟩ ⟨#[]⟩ q8 (.slice Ad nd cd)).toArray 32 (0, 0))) := Lib.hid HMf.out.row
                        have HRA : Hid (yf.heap[w.heap.size]? = some (.cells zOV.toArray 32 (0, 0))) := Lib.hid ((HMf.out.fr.block _ hz2).trans HRx.out)
                        have HBf := Lib.hid (HBx.out.trans (HMf.out.fr.mono HBx.out.size))
                        have hsvo : sv.oneCell' = true := by
                          obtain ⟨Asv, csv, rfl, -, -, -, -⟩ := own_form HMf.out.own
                          rfl
                        have hz5 : (opV (x 0) sv (x 1) (x 2) (x 3) (x 4) (.slice Av1 t cv1) q7 true ⟨#[]⟩ ⟨#[]⟩ q8 (.slice Ad nd cd)).toArray.all (·.oneCell') = true := opV_one hsvo rfl rfl
                        have hz6 : (Tryz.prog.info? 32).map (·.size) = some (opV (x 0) sv (x 1) (x 2) (x 3) (x 4) (.slice Av1 t cv1) q7 true ⟨#[]⟩ ⟨#[]⟩ q8 (.slice Ad nd cd)).toArray.size := sizeOpt
                        have hz7 : (opV (x 0) sv (x 1) (x 2) (x 3) (x 4) (.slice Av1 t cv1) q7 true ⟨#[]⟩ ⟨#[]⟩ q8 (.slice Ad nd cd)).toArray.size = zOV.toArray.size := rfl
                        have hbw2 : b ≠ w.heap.size := by omega
                        obtain ⟨VV, hVV⟩ : ∃ VV, VV = (opV (x 0) sv (x 1) (x 2) (x 3) (x 4) (.slice Av1 t cv1) q7 true ⟨#[]⟩ ⟨#[]⟩ q8 (.slice Ad nd cd)).toArray := ⟨_, rfl⟩
                        rw [← hVV] at HRf hz5 hz6 hz7
                        have HVV := Lib.hid hVV
                        have Hz5 := Lib.hid hz5
                        have Hz6 := Lib.hid hz6
                        have Hz7 := Lib.hid hz7
                        clear hVV hz5 hz6 hz7 hsvo HD3
                        go_wp2_with (first
                          | ((with_reducible refine at_load 32 ?_); refine wpList_load_row rfl 32 _ rfl b rfl 32 VV (0, 0) _ HRf.out Tryz.underlying32 rfl Hz6.out ?_)
                          | ((with_reducible refine at_store 32 ?_); refine wpList_store_row rfl 32 _ _ rfl w.heap.size VV rfl rfl 32 zOV.toArray HRA.out Hz6.out Hz7.out.symm Hz5.out ?_))
                        refine bodyPost_ret (res_cell2 rfl _ _ w.heap.size 32 VV (0, 0) rfl (setRow_heap _ _ _ _ _ _ HRA.out) Tryz.underlying32 rfl Hz6.out) rfl ?_
                        have hbt : ∀ (k : Nat) (cs : Array Value) (ty : TypeId) (fr : Nat × Nat), ty ≠ 32 → yf.heap[k]? = some (.cells cs ty fr) → (yf.setRow w.heap.size VV).heap[k]? = some (.cells cs ty fr) := fun k cs ty fr hty hk => by
                          rw [setRow_other _ _ _ _ (by
                            rintro rfl
                            rw [HRA.out] at hk
                            cases hk
                            exact hty rfl)]
                          exact hk
                        have hK := HK2.out.2.1 rfl
                        rw [HLt.out] at hK
                        have Hp : parseOL (toL s) = (⟨x 0, x 1, x 2, x 3, x 4, true, toL q7, toL q8, toL q9, ((D.drop 11).map toL).take t, z⟩, 0) := by
                          rw [Htail.out, tail_good (x := x) (z := z) Hk.out (by rw [List.length_map, HRl.out]; exact Htn.out) H6.out.1 (fun i hi => by rw [nth5_eq D hi]; exact HKn.out.1 hK.1 i hi) (by rw [HL.out.1]; exact hK.2), H6.out.2, Hqs.out.1, Hqs.out.2.1, Hqs.out.2.2]
                        obtain ⟨A8, c8, h8, hb8, _⟩ := HDf.out.keep (w' := yf.setRow w.heap.size VV) (fun k cur fr hk => hbt k cur _ fr (by decide) hk)
                        obtain ⟨A1, c1, hsv, hS1⟩ := row_sl (own_keep (w' := yf.setRow w.heap.size VV) HMf.out.own fun q cs hq => hbt q cs _ _ (by decide) hq)
                        obtain ⟨A9, c9, hv9, hS9⟩ := row_sl (own_keep (w' := yf.setRow w.heap.size VV) HTf.out fun q cs hq => hbt q cs _ _ (by decide) hq)
                        cases hv9
                        have hTl : ((D.drop 11).take t).length = t := by rw [List.length_take, HRl.out]; have := Htn.out; omega
                        rw [txs_take] at hS9
                        refine ⟨VV, by rw [Hp]; rfl, ?_, below_row HBf.out (Nat.le_refl _) _⟩
                        rw [Hp]
                        refine ⟨A1, Av1, A8, c1, cv1, c8, (D.drop 11).take t, ⟨#[]⟩, ⟨#[]⟩, ?_, ?_, by rw [hTl]; exact hS9, by simp only; rw [List.map_take], hb8⟩
                        · rw [HVV.out, hTl, hsv, h8]
                          simp only [mkS_toL, iV_length]
                        · exact hS1
                      · have k1 : y0.cell? ⟨b, 7, none⟩ = some (.string ⟨#[]⟩) := (blk_cells HM0.out.row).1 7
                        have k2 : y0.frozen? ⟨b, 7, none⟩ = false := (blk_cells HM0.out.row).2.1 7
                        with_reducible refine l_skip (w' := y0.setCell ⟨b, 7, none⟩ (.string q7)) ?_ ?_
                        · go_simp
                        have HM1 := Lib.hid (HM0.out.set hbx 7 (.string q7))
                        clear k1 k2
                        generalize (y0.setCell ⟨b, 7, none⟩ (.string q7)) = y1 at *
                        refine pt_keep (HS.out _ HM1.out.fr) ?_
                        iterate 1 ((with_reducible refine pt_any (v := ?_) ?_ ?_); rotate_left; (rintro _; go_simp; first | done | rfl | (constructor <;> rfl)))
                        with_reducible refine pt_fork ?_ ?_
                        · obtain ⟨dv', wc, hcv, hdat, hBc, hdv1⟩ := bytes_datB y1 q9 z9
                          have hdat' := hdat
                          obtain ⟨Ad, cd, rfl, -, -⟩ := hdat'
                          obtain ⟨nd, hnd⟩ : ∃ nd, nd = (toL q9).length := ⟨_, rfl⟩
                          rw [← hnd] at hcv hdat
                          have Hnd := Lib.hid hnd
                          clear hnd hdv1
                          with_reducible refine l_val (v := .slice Ad nd cd) (w' := wc) ?_ ?_
                          · go_simp
                          have HMc := Lib.hid (HM1.out.below hBc)
                          have Hd2 := Lib.hid hdat
                          clear hcv hdat hBc
                          refine pt_keep (HS.out _ HMc.out.fr) ?_
                          with_reducible refine pt_one ?_
                          have k1 : wc.cell? ⟨b, 11, none⟩ = some (.string ⟨#[]⟩) := (blk_cells HMc.out.row).1 11
                          have k2 : wc.frozen? ⟨b, 11, none⟩ = false := (blk_cells HMc.out.row).2.1 11
                          with_reducible refine l_skip (w' := wc.setCell ⟨b, 11, none⟩ (.string q8)) ?_ ?_
                          · go_simp
                          have HM3 := Lib.hid (HMc.out.set hbx 11 (.string q8))
                          have Hd3 := Lib.hid (HMc.out.dat 11 (.string q8) Hd2.out)
                          clear k1 k2
                          generalize (wc.setCell ⟨b, 11, none⟩ (.string q8)) = y3 at *
                          refine pt_keep (HS.out _ HM3.out.fr) ?_
                          iterate 1 ((with_reducible refine pt_any (v := ?_) ?_ ?_); rotate_left; (rintro _; go_simp; first | done | rfl | (constructor <;> rfl)))
                          with_reducible refine pt_three ?_
                          have k1 : y3.cell? ⟨b, 12, none⟩ = some (.slice none 0 0) := (blk_cells HM3.out.row).1 12
                          have k2 : y3.frozen? ⟨b, 12, none⟩ = false := (blk_cells HM3.out.row).2.1 12
                          with_reducible refine l_skip (w' := y3.setCell ⟨b, 12, none⟩ (.slice Ad nd cd)) ?_ ?_
                          · go_simp
                          have HM4 := Lib.hid (HM3.out.set hbx 12 (.slice Ad nd cd))
                          have Hd4 := Lib.hid (HM3.out.dat 12 (.slice Ad nd cd) Hd3.out)
                          clear k1 k2
                          generalize (y3.setCell ⟨b, 12, none⟩ (.slice Ad nd cd)) = y4 at *
                          with_reducible refine pt_last ?_
                          with_reducible refine pt_end ?_
                          simp only [Act.put, List.setIfInBounds_toArray, List.set_cons_zero, List.set_cons_succ]
                          have c6b : y4.drew.cell? ⟨b, 6, none⟩ = some (.slice none 0 0) := (blk_cells HM4.out.row).1 6
                          have HMd := Lib.hid (HM4.out.below (show Below y4.heap.size y4 y4.drew from ⟨rfl, rfl, rfl, Nat.le_refl _, fun _ _ => rfl⟩))
                          have HDd : Hid (DatB y4.drew (.slice Ad nd cd) (toL q9)) := Lib.hid (Hd4.out.keep fun _ _ _ h => h)
                          clear HM4 Hd4
                          go_wp2_with fail
                          with_reducible refine g_mixx [(0, 1), (1, 1), (2, 0), (3, 1), (4, 1), (5, 1), (6, 3), (7, 1), (8, 1), (9, 3)] (fun w' => w'.cell? ⟨b, 6, none⟩ = some (.slice none 0 0)) 0 _ rfl (by kernel_rfl) (by kernel_rfl) ?_ ?_
                          · exact c6b
                          intro OPS3 HD3
                          simp only [mixX, nthO, consX]
                          iterate 2 ((with_reducible refine x_any (v := ?_) ?_ ?_); rotate_left; (rintro _; go_simp; first | done | rfl | (constructor <;> rfl)))
                          iterate 1 ((with_reducible refine x_val (v := ?_) ?_ ?_ ?_); rotate_left; (rintro _ h; go_simp; first | done | rfl | (constructor <;> rfl)); exact c6b)
                          iterate 2 ((with_reducible refine x_any (v := ?_) ?_ ?_); rotate_left; (rintro _; go_simp; first | done | rfl | (constructor <;> rfl)))
                          with_reducible refine x_any (v := .slice (some ⟨bb, ob, none⟩) t cb) (fun wy => ?_) ?_
                          · have hq := hc3 wy
                            go_simp
                          with_reducible refine x_three ?_
                          refine wpList_append_own _ rfl (.tmp 152) (.tmp 155) 25 rfl x2.heap.size 9 iS (.string ByteArray.empty) 1 16 Tryz.underlying25 hiS hzS hsS hbS rfl (by omega) (.slice none 0 0) 0 [] ?_ (World.ownsRow_nil _ _ _ _) ⟨bb, ob, none⟩ t cb ((txs (D.drop 11)).take t) ?_ (by rw [List.length_take, txs_length, HRl.out]; have := Htn.out; omega) (Sl.news (Hbeh.out.keep (Cells.of_below HMd.out.fr)) rfl) (fun u hu => txs_one _ u (List.mem_of_mem_take hu)) (by have := Htn.out; unfold maxLen; omega) (by have := Htn.out; omega) HMd.out.fr.size ?_
                          · simp [Act.eval, Act.put]
                          · simp [Act.eval, Act.put]
                          intro v1 wp hown1 hgrow1 _
                          rw [Nat.zero_add, List.nil_append] at hown1
                          have hBg : Below y4.drew.heap.size y4.drew wp := Below.of_none hgrow1
                          have HMp := Lib.hid (HMd.out.below hBg)
                          have HDp := Lib.hid (HDd.out.keep (Byt.of_below hBg))
                          obtain ⟨Av1, cv1, rfl, -, -, -, -⟩ := own_form hown1
                          have k1 : wp.cell? ⟨b, 6, none⟩ = some (.slice none 0 0) := (blk_cells HMp.out.row).1 6
                          have k2 : wp.frozen? ⟨b, 6, none⟩ = false := (blk_cells HMp.out.row).2.1 6
                          have HMf := Lib.hid (HMp.out.set hbx 6 (.slice Av1 t cv1))
                          have HDf := Lib.hid (HMp.out.dat 6 (.slice Av1 t cv1) HDp.out)
                          have HTf : Hid ((wp.setCell ⟨b, 6, none⟩ (.slice Av1 t cv1)).ownsRow x2.heap.size 9 1 (.slice Av1 t cv1) t ((txs (D.drop 11)).take t)) := Lib.hid (own_keep hown1 fun q c hq => by
                            refine ((Fr.setCell [b] wp ⟨b, 6, none⟩ (.slice Av1 t cv1) (by simp)).block q (lt_of_heap hq) (fun hh => ?_)).trans hq
                            rw [List.mem_singleton.1 hh, HMp.out.row] at hq
                            cases hq)
                          clear hown1 hgrow1 hBg HMd HDd HMp HDp
                          with_reducible refine x_last ?_
                          iterate 2 ((with_reducible refine x_any (v := ?_) ?_ ?_); rotate_left; (rintro _; go_simp; first | done | rfl | (constructor <;> rfl)))
                          with_reducible refine x_three ?_
                          with_reducible refine l_skip (w' := wp.setCell ⟨b, 6, none⟩ (.slice Av1 t cv1)) ?_ ?_
                          · go_simp
                          with_reducible refine x_last ?_
                          with_reducible refine x_end ?_
                          simp only [Act.put, List.setIfInBounds_toArray, List.set_cons_zero, List.set_cons_succ]
                          clear k1 k2 hc3
                          generalize (wp.setCell ⟨b, 6, none⟩ (.slice Av1 t cv1)) = yf at *
                          have HRf : Hid (yf.heap[b]? = some (.cells (opV (x 0) sv (x 1) (x 2) (x 3) (x 4) (.slice Av1 t cv1) q7 true ⟨#[]⟩ ⟨#[]⟩ q8 (.slice Ad nd cd)).toArray 32 (0, 0))) := Lib.hid HMf.out.row
                          have HRA : Hid (yf.heap[w.heap.size]? = some (.cells zOV.toArray 32 (0, 0))) := Lib.hid ((HMf.out.fr.block _ hz2).trans HRx.out)
                          have HBf := Lib.hid (HBx.out.trans (HMf.out.fr.mono HBx.out.size))
                          have hsvo : sv.oneCell' = true := by
                            obtain ⟨Asv, csv, rfl, -, -, -, -⟩ := own_form HMf.out.own
                            rfl
                          have hz5 : (opV (x 0) sv (x 1) (x 2) (x 3) (x 4) (.slice Av1 t cv1) q7 true ⟨#[]⟩ ⟨#[]⟩ q8 (.slice Ad nd cd)).toArray.all (·.oneCell') = true := opV_one hsvo rfl rfl
                          have hz6 : (Tryz.prog.info? 32).map (·.size) = some (opV (x 0) sv (x 1) (x 2) (x 3) (x 4) (.slice Av1 t cv1) q7 true ⟨#[]⟩ ⟨#[]⟩ q8 (.slice Ad nd cd)).toArray.size := sizeOpt
                          have hz7 : (opV (x 0) sv (x 1) (x 2) (x 3) (x 4) (.slice Av1 t cv1) q7 true ⟨#[]⟩ ⟨#[]⟩ q8 (.slice Ad nd cd)).toArray.size = zOV.toArray.size := rfl
                          have hbw2 : b ≠ w.heap.size := by omega
                          obtain ⟨VV, hVV⟩ : ∃ VV, VV = (opV (x 0) sv (x 1) (x 2) (x 3) (x 4) (.slice Av1 t cv1) q7 true ⟨#[]⟩ ⟨#[]⟩ q8 (.slice Ad nd cd)).toArray := ⟨_, rfl⟩
                          rw [← hVV] at HRf hz5 hz6 hz7
                          have HVV := Lib.hid hVV
                          have Hz5 := Lib.hid hz5
                          have Hz6 := Lib.hid hz6
                          have Hz7 := Lib.hid hz7
                          clear hVV hz5 hz6 hz7 hsvo HD3
                          go_wp2_with (first
                            | ((with_reducible refine at_load 32 ?_); refine wpList_load_row rfl 32 _ rfl b rfl 32 VV (0, 0) _ HRf.out Tryz.underlying32 rfl Hz6.out ?_)
                            | ((with_reducible refine at_store 32 ?_); refine wpList_store_row rfl 32 _ _ rfl w.heap.size VV rfl rfl 32 zOV.toArray HRA.out Hz6.out Hz7.out.symm Hz5.out ?_))
                          refine bodyPost_ret (res_cell2 rfl _ _ w.heap.size 32 VV (0, 0) rfl (setRow_heap _ _ _ _ _ _ HRA.out) Tryz.underlying32 rfl Hz6.out) rfl ?_
                          have hbt : ∀ (k : Nat) (cs : Array Value) (ty : TypeId) (fr : Nat × Nat), ty ≠ 32 → yf.heap[k]? = some (.cells cs ty fr) → (yf.setRow w.heap.size VV).heap[k]? = some (.cells cs ty fr) := fun k cs ty fr hty hk => by
                            rw [setRow_other _ _ _ _ (by
                              rintro rfl
                              rw [HRA.out] at hk
                              cases hk
                              exact hty rfl)]
                            exact hk
                          have hK := HK2.out.2.1 rfl
                          rw [HLt.out] at hK
                          have Hp : parseOL (toL s) = (⟨x 0, x 1, x 2, x 3, x 4, true, toL q7, toL q8, toL q9, ((D.drop 11).map toL).take t, z⟩, 0) := by
                            rw [Htail.out, tail_good (x := x) (z := z) Hk.out (by rw [List.length_map, HRl.out]; exact Htn.out) H6.out.1 (fun i hi => by rw [nth5_eq D hi]; exact HKn.out.1 hK.1 i hi) (by rw [HL.out.1]; exact hK.2), H6.out.2, Hqs.out.1, Hqs.out.2.1, Hqs.out.2.2]
                          obtain ⟨A8, c8, h8, hb8, _⟩ := HDf.out.keep (w' := yf.setRow w.heap.size VV) (fun k cur fr hk => hbt k cur _ fr (by decide) hk)
                          obtain ⟨A1, c1, hsv, hS1⟩ := row_sl (own_keep (w' := yf.setRow w.heap.size VV) HMf.out.own fun q cs hq => hbt q cs _ _ (by decide) hq)
                          obtain ⟨A9, c9, hv9, hS9⟩ := row_sl (own_keep (w' := yf.setRow w.heap.size VV) HTf.out fun q cs hq => hbt q cs _ _ (by decide) hq)
                          cases hv9
                          have hTl : ((D.drop 11).take t).length = t := by rw [List.length_take, HRl.out]; have := Htn.out; omega
                          rw [txs_take] at hS9
                          refine ⟨VV, by rw [Hp]; rfl, ?_, below_row HBf.out (Nat.le_refl _) _⟩
                          rw [Hp]
                          refine ⟨A1, Av1, A8, c1, cv1, c8, (D.drop 11).take t, ⟨#[]⟩, ⟨#[]⟩, ?_, ?_, by rw [hTl]; exact hS9, by simp only; rw [List.map_take], hb8⟩
                          · rw [HVV.out, hTl, hsv, h8]
                            simp only [mkS_toL, iV_length]
                          · exact hS1
                        · have k1 : y1.cell? ⟨b, 11, none⟩ = some (.string ⟨#[]⟩) := (blk_cells HM1.out.row).1 11
                          have k2 : y1.frozen? ⟨b, 11, none⟩ = false := (blk_cells HM1.out.row).2.1 11
                          with_reducible refine l_skip (w' := y1.setCell ⟨b, 11, none⟩ (.string q8)) ?_ ?_
                          · go_simp
                          have HM2 := Lib.hid (HM1.out.set hbx 11 (.string q8))
                          clear k1 k2
                          generalize (y1.setCell ⟨b, 11, none⟩ (.string q8)) = y2 at *
                          refine pt_keep (HS.out _ HM2.out.fr) ?_
                          with_reducible refine pt_one ?_
                          obtain ⟨dv', wc, hcv, hdat, hBc, hdv1⟩ := bytes_datB y2 q9 z9
                          have hdat' := hdat
                          obtain ⟨Ad, cd, rfl, -, -⟩ := hdat'
                          obtain ⟨nd, hnd⟩ : ∃ nd, nd = (toL q9).length := ⟨_, rfl⟩
                          rw [← hnd] at hcv hdat
                          have Hnd := Lib.hid hnd
                          clear hnd hdv1
                          with_reducible refine l_val (v := .slice Ad nd cd) (w' := wc) ?_ ?_
                          · go_simp
                          have HMc := Lib.hid (HM2.out.below hBc)
                          have Hd3 := Lib.hid hdat
                          clear hcv hdat hBc
                          refine pt_keep (HS.out _ HMc.out.fr) ?_
                          iterate 1 ((with_reducible refine pt_any (v := ?_) ?_ ?_); rotate_left; (rintro _; go_simp; first | done | rfl | (constructor <;> rfl)))
                          with_reducible refine pt_three ?_
                          have k1 : wc.cell? ⟨b, 12, none⟩ = some (.slice none 0 0) := (blk_cells HMc.out.row).1 12
                          have k2 : wc.frozen? ⟨b, 12, none⟩ = false := (blk_cells HMc.out.row).2.1 12
                          with_reducible refine l_skip (w' := wc.setCell ⟨b, 12, none⟩ (.slice Ad nd cd)) ?_ ?_
                          · go_simp
                          have HM4 := Lib.hid (HMc.out.set hbx 12 (.slice Ad nd cd))
                          have Hd4 := Lib.hid (HMc.out.dat 12 (.slice Ad nd cd) Hd3.out)
                          clear k1 k2
                          generalize (wc.setCell ⟨b, 12, none⟩ (.slice Ad nd cd)) = y4 at *
                          with_reducible refine pt_last ?_
                          with_reducible refine pt_end ?_
                          simp only [Act.put, List.setIfInBounds_toArray, List.set_cons_zero, List.set_cons_succ]
                          have c6b : y4.drew.cell? ⟨b, 6, none⟩ = some (.slice none 0 0) := (blk_cells HM4.out.row).1 6
                          have HMd := Lib.hid (HM4.out.below (show Below y4.heap.size y4 y4.drew from ⟨rfl, rfl, rfl, Nat.le_refl _, fun _ _ => rfl⟩))
                          have HDd : Hid (DatB y4.drew (.slice Ad nd cd) (toL q9)) := Lib.hid (Hd4.out.keep fun _ _ _ h => h)
                          clear HM4 Hd4
                          go_wp2_with fail
                          with_reducible refine g_mixx [(0, 1), (1, 1), (2, 0), (3, 1), (4, 1), (5, 1), (6, 3), (7, 1), (8, 1), (9, 3)] (fun w' => w'.cell? ⟨b, 6, none⟩ = some (.slice none 0 0)) 0 _ rfl (by kernel_rfl) (by kernel_rfl) ?_ ?_
                          · exact c6b
                          intro OPS3 HD3
                          simp only [mixX, nthO, consX]
                          iterate 2 ((with_reducible refine x_any (v := ?_) ?_ ?_); rotate_left; (rintro _; go_simp; first | done | rfl | (constructor <;> rfl)))
                          iterate 1 ((with_reducible refine x_val (v := ?_) ?_ ?_ ?_); rotate_left; (rintro _ h; go_simp; first | done | rfl | (constructor <;> rfl)); exact c6b)
                          iterate 2 ((with_reducible refine x_any (v := ?_) ?_ ?_); rotate_left; (rintro _; go_simp; first | done | rfl | (constructor <;> rfl)))
                          with_reducible refine x_any (v := .slice (some ⟨bb, ob, none⟩) t cb) (fun wy => ?_) ?_
                          · have hq := hc3 wy
                            go_simp
                          with_reducible refine x_three ?_
                          refine wpList_append_own _ rfl (.tmp 152) (.tmp 155) 25 rfl x2.heap.size 9 iS (.string ByteArray.empty) 1 16 Tryz.underlying25 hiS hzS hsS hbS rfl (by omega) (.slice none 0 0) 0 [] ?_ (World.ownsRow_nil _ _ _ _) ⟨bb, ob, none⟩ t cb ((txs (D.drop 11)).take t) ?_ (by rw [List.length_take, txs_length, HRl.out]; have := Htn.out; omega) (Sl.news (Hbeh.out.keep (Cells.of_below HMd.out.fr)) rfl) (fun u hu => txs_one _ u (List.mem_of_mem_take hu)) (by have := Htn.out; unfold maxLen; omega) (by have := Htn.out; omega) HMd.out.fr.size ?_
                          · simp [Act.eval, Act.put]
                          · simp [Act.eval, Act.put]
                          intro v1 wp hown1 hgrow1 _
                          rw [Nat.zero_add, List.nil_append] at hown1
                          have hBg : Below y4.drew.heap.size y4.drew wp := Below.of_none hgrow1
                          have HMp := Lib.hid (HMd.out.below hBg)
                          have HDp := Lib.hid (HDd.out.keep (Byt.of_below hBg))
                          obtain ⟨Av1, cv1, rfl, -, -, -, -⟩ := own_form hown1
                          have k1 : wp.cell? ⟨b, 6, none⟩ = some (.slice none 0 0) := (blk_cells HMp.out.row).1 6
                          have k2 : wp.frozen? ⟨b, 6, none⟩ = false := (blk_cells HMp.out.row).2.1 6
                          have HMf := Lib.hid (HMp.out.set hbx 6 (.slice Av1 t cv1))
                          have HDf := Lib.hid (HMp.out.dat 6 (.slice Av1 t cv1) HDp.out)
                          have HTf : Hid ((wp.setCell ⟨b, 6, none⟩ (.slice Av1 t cv1)).ownsRow x2.heap.size 9 1 (.slice Av1 t cv1) t ((txs (D.drop 11)).take t)) := Lib.hid (own_keep hown1 fun q c hq => by
                            refine ((Fr.setCell [b] wp ⟨b, 6, none⟩ (.slice Av1 t cv1) (by simp)).block q (lt_of_heap hq) (fun hh => ?_)).trans hq
                            rw [List.mem_singleton.1 hh, HMp.out.row] at hq
                            cases hq)
                          clear hown1 hgrow1 hBg HMd HDd HMp HDp
                          with_reducible refine x_last ?_
                          iterate 2 ((with_reducible refine x_any (v := ?_) ?_ ?_); rotate_left; (rintro _; go_simp; first | done | rfl | (constructor <;> rfl)))
                          with_reducible refine x_three ?_
                          with_reducible refine l_skip (w' := wp.setCell ⟨b, 6, none⟩ (.slice Av1 t cv1)) ?_ ?_
                          · go_simp
                          with_reducible refine x_last ?_
                          with_reducible refine x_end ?_
                          simp only [Act.put, List.setIfInBounds_toArray, List.set_cons_zero, List.set_cons_succ]
                          clear k1 k2 hc3
                          generalize (wp.setCell ⟨b, 6, none⟩ (.slice Av1 t cv1)) = yf at *
                          have HRf : Hid (yf.heap[b]? = some (.cells (opV (x 0) sv (x 1) (x 2) (x 3) (x 4) (.slice Av1 t cv1) q7 true ⟨#[]⟩ ⟨#[]⟩ q8 (.slice Ad nd cd)).toArray 32 (0, 0))) := Lib.hid HMf.out.row
                          have HRA : Hid (yf.heap[w.heap.size]? = some (.cells zOV.toArray 32 (0, 0))) := Lib.hid ((HMf.out.fr.block _ hz2).trans HRx.out)
                          have HBf := Lib.hid (HBx.out.trans (HMf.out.fr.mono HBx.out.size))
                          have hsvo : sv.oneCell' = true := by
                            obtain ⟨Asv, csv, rfl, -, -, -, -⟩ := own_form HMf.out.own
                            rfl
                          have hz5 : (opV (x 0) sv (x 1) (x 2) (x 3) (x 4) (.slice Av1 t cv1) q7 true ⟨#[]⟩ ⟨#[]⟩ q8 (.slice Ad nd cd)).toArray.all (·.oneCell') = true := opV_one hsvo rfl rfl
                          have hz6 : (Tryz.prog.info? 32).map (·.size) = some (opV (x 0) sv (x 1) (x 2) (x 3) (x 4) (.slice Av1 t cv1) q7 true ⟨#[]⟩ ⟨#[]⟩ q8 (.slice Ad nd cd)).toArray.size := sizeOpt
                          have hz7 : (opV (x 0) sv (x 1) (x 2) (x 3) (x 4) (.slice Av1 t cv1) q7 true ⟨#[]⟩ ⟨#[]⟩ q8 (.slice Ad nd cd)).toArray.size = zOV.toArray.size := rfl
                          have hbw2 : b ≠ w.heap.size := by omega
                          obtain ⟨VV, hVV⟩ : ∃ VV, VV = (opV (x 0) sv (x 1) (x 2) (x 3) (x 4) (.slice Av1 t cv1) q7 true ⟨#[]⟩ ⟨#[]⟩ q8 (.slice Ad nd cd)).toArray := ⟨_, rfl⟩
                          rw [← hVV] at HRf hz5 hz6 hz7
                          have HVV := Lib.hid hVV
                          have Hz5 := Lib.hid hz5
                          have Hz6 := Lib.hid hz6
                          have Hz7 := Lib.hid hz7
                          clear hVV hz5 hz6 hz7 hsvo HD3
                          go_wp2_with (first
                            | ((with_reducible refine at_load 32 ?_); refine wpList_load_row rfl 32 _ rfl b rfl 32 VV (0, 0) _ HRf.out Tryz.underlying32 rfl Hz6.out ?_)
                            | ((with_reducible refine at_store 32 ?_); refine wpList_store_row rfl 32 _ _ rfl w.heap.size VV rfl rfl 32 zOV.toArray HRA.out Hz6.out Hz7.out.symm Hz5.out ?_))
                          refine bodyPost_ret (res_cell2 rfl _ _ w.heap.size 32 VV (0, 0) rfl (setRow_heap _ _ _ _ _ _ HRA.out) Tryz.underlying32 rfl Hz6.out) rfl ?_
                          have hbt : ∀ (k : Nat) (cs : Array Value) (ty : TypeId) (fr : Nat × Nat), ty ≠ 32 → yf.heap[k]? = some (.cells cs ty fr) → (yf.setRow w.heap.size VV).heap[k]? = some (.cells cs ty fr) := fun k cs ty fr hty hk => by
                            rw [setRow_other _ _ _ _ (by
                              rintro rfl
                              rw [HRA.out] at hk
                              cases hk
                              exact hty rfl)]
                            exact hk
                          have hK := HK2.out.2.1 rfl
                          rw [HLt.out] at hK
                          have Hp : parseOL (toL s) = (⟨x 0, x 1, x 2, x 3, x 4, true, toL q7, toL q8, toL q9, ((D.drop 11).map toL).take t, z⟩, 0) := by
                            rw [Htail.out, tail_good (x := x) (z := z) Hk.out (by rw [List.length_map, HRl.out]; exact Htn.out) H6.out.1 (fun i hi => by rw [nth5_eq D hi]; exact HKn.out.1 hK.1 i hi) (by rw [HL.out.1]; exact hK.2), H6.out.2, Hqs.out.1, Hqs.out.2.1, Hqs.out.2.2]
                          obtain ⟨A8, c8, h8, hb8, _⟩ := HDf.out.keep (w' := yf.setRow w.heap.size VV) (fun k cur fr hk => hbt k cur _ fr (by decide) hk)
                          obtain ⟨A1, c1, hsv, hS1⟩ := row_sl (own_keep (w' := yf.setRow w.heap.size VV) HMf.out.own fun q cs hq => hbt q cs _ _ (by decide) hq)
                          obtain ⟨A9, c9, hv9, hS9⟩ := row_sl (own_keep (w' := yf.setRow w.heap.size VV) HTf.out fun q cs hq => hbt q cs _ _ (by decide) hq)
                          cases hv9
                          have hTl : ((D.drop 11).take t).length = t := by rw [List.length_take, HRl.out]; have := Htn.out; omega
                          rw [txs_take] at hS9
                          refine ⟨VV, by rw [Hp]; rfl, ?_, below_row HBf.out (Nat.le_refl _) _⟩
                          rw [Hp]
                          refine ⟨A1, Av1, A8, c1, cv1, c8, (D.drop 11).take t, ⟨#[]⟩, ⟨#[]⟩, ?_, ?_, by rw [hTl]; exact hS9, by simp only; rw [List.map_take], hb8⟩
                          · rw [HVV.out, hTl, hsv, h8]
                            simp only [mkS_toL, iV_length]
                          · exact hS1
                    · subst hok
                      have Hp : Hid (parseOL (toL s) = (zOpt, 6)) := Lib.hid (by
                        rw [Htail.out]
                        refine tail_bad Hk.out (by rw [List.length_map, HRl.out]; exact Htn.out) H6.out.1 ?_
                        rcases HK2.out.2.2 rfl with h | h
                        · obtain ⟨i, hi, h2⟩ := HKn.out.2 h
                          exact .inl ⟨i, hi, by rw [nth5_eq D hi]; exact h2⟩
                        · rw [HLt.out] at h
                          exact .inr (by rw [HL.out.1]; exact h))
                      go_wp2_with ((with_reducible refine at_store 32 ?_); refine wpList_store_row rfl 32 _ _ rfl w.heap.size zOV.toArray rfl rfl 32 zOV.toArray HR.out sizeOpt rfl zOV_one ?_)
                      refine bodyPost_ret (res_cell2 rfl _ _ w.heap.size 32 zOV.toArray (0, 0) rfl (setRow_heap _ _ _ _ _ _ HR.out) Tryz.underlying32 rfl sizeOpt) rfl ?_
                      exact po_zero Hp.out (below_row HB.out (Nat.le_refl _) _)
          · have hb0 : (q6.toList == [48]) = false := beq_eq_false_iff_ne.2 h0
            have hb1 : (q6.toList == [49]) = false := beq_eq_false_iff_ne.2 h1
            have Hp : Hid (parseOL (toL s) = (zOpt, 6)) := Lib.hid (by rw [Htail.out]; exact tail_range Hk.out (by rw [List.length_map, HRl.out]; exact hgt) (.inr ⟨by rw [← toList_toL]; exact h0, by rw [← toList_toL]; exact h1⟩))
            clear h0 h1
            go_wp2_with ((with_reducible refine at_store 32 ?_); refine wpList_store_row rfl 32 _ _ rfl w.heap.size zOV.toArray rfl rfl 32 zOV.toArray HR.out sizeOpt rfl zOV_one ?_)
            refine bodyPost_ret (res_cell2 rfl _ _ w.heap.size 32 zOV.toArray (0, 0) rfl (setRow_heap _ _ _ _ _ _ HR.out) Tryz.underlying32 rfl sizeOpt) rfl ?_
            exact po_zero Hp.out (below_row HB.out (Nat.le_refl _) _)
  · subst hi
    have Hp : Hid (parseOL (toL s) = (zOpt, 6)) := Lib.hid (by rw [Htail.out]; exact tail_none Hnum.out)
    go_wp2_with ((with_reducible refine at_store 32 ?_); refine wpList_store_row rfl 32 _ _ rfl w.heap.size zOV.toArray rfl rfl 32 zOV.toArray HR.out sizeOpt rfl zOV_one ?_)
    refine bodyPost_ret (res_cell2 rfl _ _ w.heap.size 32 zOV.toArray (0, 0) rfl (setRow_heap _ _ _ _ _ _ HR.out) Tryz.underlying32 rfl sizeOpt) rfl ?_
    exact po_zero Hp.out (below_row HB.out (Nat.le_refl _) _)
end Go.Proofs.YtlljjddgbilipaaGreatDoor

