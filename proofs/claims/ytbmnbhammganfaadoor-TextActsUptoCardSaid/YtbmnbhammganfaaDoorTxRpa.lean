/-
  mewsref23.ParseAct.
-/
import Derived.Test.YtbmnbhammganfaaDoorTxRpl
namespace Go.Proofs.YtbmnbhammganfaaDoor
open Go.RowKit Go.Maps

set_option linter.unusedSimpArgs false

attribute [local go_sem] lt1 lt2 lt3 lt4 lt5 lt6

def rL (k s : Int) (tv nv : Value) : List Value := [.int .i64 k, .int .i64 s, tv, nv]
def rV (k s : Int) (tv nv : Value) : Array Value := (rL k s tv nv).toArray
theorem rV_one {k s : Int} {tv nv : Value} (h1 : tv.oneCell' = true) (h2 : nv.oneCell' = true) : (rV k s tv nv).all (·.oneCell') = true := all_oneCell_toArray (by
  intro u hu
  simp only [rL, List.mem_cons, List.not_mem_nil, or_false] at hu
  rcases hu with rfl | rfl | rfl | rfl <;> first | rfl | exact h1 | exact h2)
theorem sizeR : (Tryd.prog.info? 49).map (·.size) = some 4 := by kernel_rfl
theorem rp_zero {w w' : World} {s : ByteArray} {n : Int} (h : rparse (toL s) = (zR, n)) (hB : Below w.heap.size w w') : RpPost w s (.returned (.tuple #[.agg (rV 0 0 nilV nilV), .int .i64 n])) w' :=
  ⟨_, by rw [h], by rw [h]; exact ⟨none, 0, none, 0, [], rfl, rfl, ⟨rfl, by simp, by simp, by simp, by simp⟩, ⟨rfl, by simp [zR], by simp [zR], by simp, by simp [zR]⟩⟩, hB⟩
theorem rfsV_at : ∀ (l : List RForm) (i : Nat) (f : RForm), l[i]? = some f → ∀ j v, (rfV f)[j]? = some v → (rfsV l)[i * 4 + j]? = some v
  | [], i, f, h, _, _, _ => by simp at h
  | g :: r, 0, f, h, j, v, hv => by
    simp at h
    subst h
    rw [rfsV, Nat.zero_mul, Nat.zero_add, List.getElem?_append_left (List.getElem?_eq_some_iff.1 hv).1]
    exact hv
  | g :: r, i + 1, f, h, j, v, hv => by
    simp at h
    rw [rfsV, List.getElem?_append_right (by simp [rfV]; omega), show (i + 1) * 4 + j - (rfV g).length = i * 4 + j by simp [rfV]; omega]
    exact rfsV_at r i f h j v hv
theorem rforms_own (w : World) : Calls Tryd.prog 48 #[] w fun e w' => ∃ b, e = .returned (.slice (some ⟨b, 0, none⟩) 15 15) ∧ w'.heap[b]? = some (.cells (rfsV RFORMS).toArray 105 (0, 0)) ∧ Below w.heap.size w w' ∧ w.heap.size ≤ b := by
  refine (rforms_any w).mono ?_
  rintro e w' ⟨rfl, rfl⟩
  exact ⟨_, rfl, heap_alloc_new _ _, (Below.refl _ _).alloc (Nat.le_refl _) _, Nat.le_refl _⟩
def RFRel (D : List ByteArray) (x0 : World) (iv : Value) (wr : World) : Prop := ∃ i : Nat, i ≤ 15 ∧ iv = .int .i64 (i : Nat) ∧ (∀ F ∈ RFORMS.take i, rmatch (D.map toL) F = false) ∧ Below x0.heap.size x0 wr
theorem infoInt : (Tryd.prog.info? 3).map (fun i => (i.zero, i.size, i.bytes)) = some (some (.int .i64 0), 1, 8) := by kernel_rfl
theorem ints_one (l : List Int) : ∀ u ∈ intsV l, u.oneCell' = true := by
  intro u hu
  obtain ⟨x, _, rfl⟩ := List.mem_map.1 hu
  rfl
def NRel (x4 : World) (ba : Nat) (F : RForm) (D2 : List ByteArray) (kv : Value) (wr : World) : Prop := ∃ (k : Nat) (acc : List Int) (vn : Value), k ≤ D2.length ∧ kv = .int .i64 (k : Nat) ∧ NumAt F.says (D2.map toL) k acc ∧ acc.length ≤ k ∧ Fr [ba] x4 wr ∧ wr.heap[ba]? = some (.cells (rV (F.kind : Nat) (F.sub : Nat) nilV vn) 49 (0, 0)) ∧ wr.ownsRow x4.heap.size 3 1 vn acc.length (intsV acc)
def TRel (x5 : World) (ba : Nat) (F : RForm) (D2 : List ByteArray) (vn : Value) (kv : Value) (wr : World) : Prop := ∃ (k : Nat) (acc : List ByteArray) (vt : Value) (sb : Int), k ≤ D2.length ∧ kv = .int .i64 (k : Nat) ∧ TextAt F.says (D2.map toL) k (acc.map toL) ∧ SubAt F (D2.map toL) k sb ∧ acc.length ≤ k ∧ Fr [ba] x5 wr ∧ wr.heap[ba]? = some (.cells (rV (F.kind : Nat) sb vt vn) 49 (0, 0)) ∧ wr.ownsRow x5.heap.size 9 1 vt acc.length (txs acc)
def JRel (x6 : World) (ba : Nat) (F : RForm) (x : List UInt8) (vt vn : Value) (jv : Value) (wr : World) : Prop := ∃ (j : Nat) (sb : Int), j ≤ 7 ∧ jv = .int .i64 (j : Nat) ∧ KindAt x j sb ∧ Fr [ba] x6 wr ∧ wr.heap[ba]? = some (.cells (rV (F.kind : Nat) sb vt vn) 49 (0, 0))
theorem map_at {D : List ByteArray} {k : Nat} {x : ByteArray} (h : D[k]? = some x) : (D.map toL)[k]? = some (toL x) := by rw [List.getElem?_map, h]; rfl
theorem getD_at {l : List UInt8} {k : Nat} {c : UInt8} (hk : k < l.length) (h : c = l.getD k 0) : l[k]? = some c := by
  rw [h, List.getD_eq_getElem?_getD, List.getElem?_eq_getElem hk]
  rfl
set_option maxRecDepth 100000 in
set_option maxHeartbeats 40000000 in
theorem rparse_ref (s : ByteArray) (hl : s.size ≤ 1048576) (w : World) : Calls Tryd.prog 19 #[.string s] w (RpPost w s) := by
  go_enter Tryd.func19, Tryd.ntmps19
  go_wp2_with fail
  refine (words_ref _ s hl).mono ?_
  rintro e x1 ⟨D, v, rfl, hown, hB1, hD⟩
  obtain ⟨A, c, rfl, hS⟩ := row_sl hown
  have hr1 : x1.heap[w.heap.size]? = some (.cells (rV 0 0 nilV nilV) 49 (0, 0)) := (hB1.block _ (by simp)).trans (heap_alloc_new _ _)
  have hBw : Below w.heap.size w x1 := ((Below.refl w.heap.size w).alloc (Nat.le_refl _) _).trans (hB1.mono (by simp))
  have hz1 : w.heap.size < x1.heap.size := lt_of_heap hr1
  have Hr1 := Lib.hid hr1
  have HB1 := Lib.hid hBw
  have HS1 := Lib.hid hS
  have HD := Lib.hid hD
  clear hr1 hBw hS hD hown hB1
  by_cases he : wordsErr (toL s) ≠ 0
  · have heb : (wordsErr (toL s) == 0) = false := beq_eq_false_iff_ne.2 he
    have Hp := Lib.hid (rparse_err he)
    generalize wordsErr (toL s) = er at *
    clear he
    go_wp2_with ((with_reducible refine at_store 49 ?_); refine wpList_store_row rfl 49 _ _ rfl w.heap.size (rV 0 0 nilV nilV) rfl rfl 49 (rV 0 0 nilV nilV) Hr1.out sizeR rfl (rV_one rfl rfl) ?_)
    refine bodyPost_ret (res_cell2 rfl _ _ w.heap.size 49 (rV 0 0 nilV nilV) (0, 0) rfl (setRow_heap _ _ _ _ _ _ Hr1.out) Tryd.underlying49 rfl sizeR) rfl ?_
    exact rp_zero Hp.out (below_row HB1.out (Nat.le_refl _) _)
  have he0 : wordsErr (toL s) = 0 := Decidable.not_not.1 he
  have Hp0 := Lib.hid (rparse_ok he0)
  rw [he0]
  clear he he0
  by_cases hD0 : D = []
  · have hz : ((D.length : Int) == 0) = true := by rw [hD0]; rfl
    have Hp : Hid (rparse (toL s) = (zR, 7)) := Lib.hid (by
      rw [Hp0.out, ← HD.out, hD0]
      exact rfind_none (by decide +kernel))
    clear hD0
    go_wp2_with ((with_reducible refine at_store 49 ?_); refine wpList_store_row rfl 49 _ _ rfl w.heap.size (rV 0 0 nilV nilV) rfl rfl 49 (rV 0 0 nilV nilV) Hr1.out sizeR rfl (rV_one rfl rfl) ?_)
    refine bodyPost_ret (res_cell2 rfl _ _ w.heap.size 49 (rV 0 0 nilV nilV) (0, 0) rfl (setRow_heap _ _ _ _ _ _ Hr1.out) Tryd.underlying49 rfl sizeR) rfl ?_
    exact rp_zero Hp.out (below_row HB1.out (Nat.le_refl _) _)
  have hDl : 0 < D.length := List.length_pos_iff.2 hD0
  obtain ⟨bw, ow, q0, hA, hq0, hc0⟩ := str_at (w := x1) (x := D) HS1.out hDl
  rw [Nat.add_zero] at hc0
  subst hA
  have hz : ((D.length : Int) == 0) = false := by rw [beq_eq_false_iff_ne]; omega
  have hlt0 : (0 : Int) < D.length := by omega
  have hseq := str_eq q0 ⟨#[114, 117, 110]⟩
  have h1I : (1 : Int) ≤ D.length := by omega
  have hsl1 : ∀ w : World, (Instr.slice 39 (.slice (some ⟨bw, ow, none⟩) D.length c) (some (.int .i64 1)) none none).run Tryd.prog w = .ok (.slice (cutA (some ⟨bw, ow, none⟩) c 1) (D.length - 1) (c - 1)) w := fun w => slice_loS (some ⟨bw, ow, none⟩) D.length c 1 (by omega) w
  have Hq0 := Lib.hid hq0
  have HDz : Hid (∀ p ∈ D, p.size ≤ 1048576) := Lib.hid (fun p hp => by
    have h3 := wordsOf_len (s := toL s) (x := toL p) (by rw [← HD.out]; exact List.mem_map.2 ⟨_, hp, rfl⟩)
    rw [toL_len, toL_len] at h3
    omega)
  have hq0z : q0.size ≤ 1048576 := HDz.out q0 (List.mem_of_getElem? hq0)
  have HS2 := Lib.hid (HS1.out.dropS (l := 1) (by omega))
  clear hq0
  obtain ⟨A1, hA1⟩ : ∃ A1, A1 = cutA (some ⟨bw, ow, none⟩) c 1 := ⟨_, rfl⟩
  rw [← hA1] at hsl1 HS2
  clear hA1 hseq
  have hcase : ¬ q0.toList = [114, 117, 110] ∨ (q0.toList = [114, 117, 110] ∧ ¬ (1 : Int) < D.length) ∨ (q0.toList = [114, 117, 110] ∧ (1 : Int) < D.length) := by
    by_cases h1 : q0.toList = [114, 117, 110]
    · by_cases h2 : (1 : Int) < D.length
      · exact .inr (.inr ⟨h1, h2⟩)
      · exact .inr (.inl ⟨h1, h2⟩)
    · exact .inl h1
  have Hhd : Hid ((D.map toL).headD [] = toL q0) := Lib.hid (by
    have h1 := Hq0.out
    cases D with
    | nil => simp at h1
    | cons a r => simp at h1; simp [h1])
  rcases hcase with hr | ⟨hr, h1⟩ | ⟨hr, h1⟩
  · have HWQ : Hid (toL q0 = rword (D.map toL)) := Lib.hid (by
      have h2 := Hq0.out
      rcases D with _ | ⟨a, _ | ⟨b, r⟩⟩
      · simp at h2
      · simp at h2; simp [rword, h2]
      · simp at h2
        have h3 : ¬ toL q0 = runW := fun e => hr (by rw [toList_toL]; exact e)
        simp [rword, h2, h3])
    obtain ⟨D2, hD2⟩ : ∃ D2, D2 = D.drop 1 := ⟨_, rfl⟩
    have hlD : D.length - 1 = D2.length := by rw [hD2, List.length_drop]
    have HS3 : Hid (Sl x1 A1 (c - 1) D2.length 1 (txs D2)) := Lib.hid (by
      have := HS2.out
      rw [hlD] at this
      have e : txs D2 = (txs D).drop 1 := by rw [hD2, txs, txs, List.map_drop]
      rw [e]
      exact this)
    rw [hlD] at hsl1
    have HD2 : Hid (D2.map toL = rrest (D.map toL)) := Lib.hid (by
      have h2 := Hq0.out
      rcases D with _ | ⟨a, _ | ⟨b, r⟩⟩
      · simp at h2
      · simp [hD2, rrest]
      · simp at h2
        have h3 : ¬ toL q0 = runW := fun e => hr (by rw [toList_toL]; exact e)
        simp [hD2, rrest, h2, h3])
    have HD2e := Lib.hid hD2
    clear HS2 hlD hD2
    go_wp2_with fail
    clear hr
    obtain ⟨W, hW⟩ : ∃ W, W = q0 := ⟨_, rfl⟩
    have HW : Hid (toL W = rword (D.map toL)) := Lib.hid (by rw [hW]; exact HWQ.out)
    clear HWQ
    obtain ⟨A2, hA2⟩ : ∃ A2, A2 = A1 := ⟨_, rfl⟩
    obtain ⟨c2, hc2⟩ : ∃ c2, c2 = c - 1 := ⟨_, rfl⟩
    rw [← hA2, ← hc2] at HS3
    rw [← hA2, ← hc2, ← hW]
    clear hA2 hc2 hsl1 hW
    have HDz2 : Hid (∀ p ∈ D2, p.size ≤ 1048576) := Lib.hid (fun p hp => HDz.out p (by rw [HD2e.out] at hp; exact List.mem_of_mem_drop hp))
    refine (rforms_own _).mono ?_
    rintro e x2 ⟨gF, rfl, hf2, hB2, hgF⟩
    have hx1z := hB2.size
    have HB2 := Lib.hid (HB1.out.trans (hB2.mono HB1.out.size))
    have Hr2 := Lib.hid ((hB2.block w.heap.size hz1).trans Hr1.out)
    have HS4 := Lib.hid (HS3.out.keep (Cells.of_below hB2))
    have Hf2 := Lib.hid hf2
    have Hc0 := Lib.hid ((hB2.cell (World.block_lt_of_cell? x1 _ hc0)).trans hc0)
    clear hf2 hB2 HS3 Hr1 HB1
    go_wp2_with fail
    go_loopw [9] (fun iv wr => RFRel D x2 iv wr) (fun iv _ => 15 - (intOf iv).toNat)
    case atStart => exact ⟨0, by omega, rfl, by simp, Below.refl _ _⟩
    case round =>
      obtain ⟨i, hi, rfl, hno, hB⟩ := hrel
      have Hno := Lib.hid hno
      have HB := Lib.hid hB
      have hgx := hB.size
      clear hno hB
      by_cases hi15 : i < 15
      · have hiI : (i : Int) < 15 := by omega
        have hir : (0 : Int) ≤ i := by omega
        have hlt : i < RFORMS.length := hi15
        have hfi : RFORMS[i]? = some RFORMS[i] := List.getElem?_eq_getElem hlt
        generalize hfg : RFORMS[i] = F at *
        have Hfi := Lib.hid hfi
        have HF : Hid (F ∈ RFORMS) := Lib.hid (List.mem_of_getElem? hfi)
        clear hfg hfi hlt
        have hrow : ∀ j v, (rfV F)[j]? = some v → wr.cell? ⟨gF, i * 4 + j, none⟩ = some v := fun j v hv => by
          have h2 := rfsV_at _ _ _ Hfi.out j v hv
          have h3 := HB.out.block gF (lt_of_heap Hf2.out)
          have h4 := (blk_cells (h3.trans Hf2.out)).1 (i * 4 + j)
          rw [h4, List.getElem?_toArray]
          exact h2
        have Hrow := Lib.hid hrow
        obtain ⟨WF, hWF⟩ : ∃ x, x = mkS F.word := ⟨_, rfl⟩
        obtain ⟨SF, hSF⟩ : ∃ x, x = mkS F.says := ⟨_, rfl⟩
        have f2 : wr.cell? ⟨gF, i * 4 + 2, none⟩ = some (.string WF) := by rw [hWF]; exact hrow 2 _ rfl
        have f3 : wr.cell? ⟨gF, i * 4 + 3, none⟩ = some (.string SF) := by rw [hSF]; exact hrow 3 _ rfl
        have HWF := Lib.hid hWF
        have HSF := Lib.hid hSF
        have c0 : wr.cell? ⟨bw, ow, none⟩ = some (.string q0) := (HB.out.cell (World.block_lt_of_cell? x2 _ Hc0.out)).trans Hc0.out
        clear hrow hWF hSF
        have Hnx : Hid (∀ x3, Below x2.heap.size x2 x3 → rmatch (D.map toL) F = false → RFRel D x2 (.int .i64 ((i : Int) + 1)) x3) := Lib.hid (fun x3 h3 hm => ⟨i + 1, by omega, by go_num, fun f' hf' => by
          rw [take_snoc Hfi.out, List.mem_append, List.mem_singleton] at hf'
          rcases hf' with hf' | rfl
          · exact Hno.out f' hf'
          · exact hm, h3⟩)
        have hseq := str_eq WF W
        by_cases hw : ¬ F.word = rword (D.map toL)
        · have hne : ¬ WF = W := fun e => hw (by rw [← HW.out, ← e, HWF.out, toL_mkS])
          rw [decide_eq_false hne] at hseq
          have Hm := Lib.hid (Hnx.out wr HB.out (by unfold rmatch; rw [decide_eq_false hw]; rfl))
          clear hw hne
          go_wp2_with fail
          exact ⟨Hm.out, by simp [intOf]; omega⟩
        have hw := Decidable.not_not.1 hw
        have heq : WF = W := by
          apply toL_inj
          rw [HW.out, ← hw, HWF.out, toL_mkS]
        rw [decide_eq_true heq] at hseq
        have Hw := Lib.hid hw
        clear hw heq
        go_wp2_with fail
        refine (cut_ref _ q0 32 hq0z).mono ?_
        rintro e x3 ⟨Dc, v, rfl, hownc, hB3, hDc⟩
        obtain ⟨Ac, cc, rfl, _, _, _, _⟩ := own_form hownc
        have hB3' := HB.out.trans (hB3.mono hgx)
        have hlc : Dc.length = (cutL 32 (toL q0)).length := by rw [← hDc, List.length_map]
        have HB3 := Lib.hid hB3'
        have hx3 := hB3'.size
        clear hownc hB3 hDc hB3'
        by_cases h32 : (32 : UInt8) ∈ toL q0
        · have hgt : (1 : Int) < Dc.length := by
            have h1 := cutL_ne 32 (toL q0)
            have h2 : (cutL 32 (toL q0)).length ≠ 0 := fun e => h1 (List.eq_nil_of_length_eq_zero e)
            have h3 : (cutL 32 (toL q0)).length ≠ 1 := fun e => cutL_one.1 e h32
            omega
          have Hm := Lib.hid (Hnx.out x3 HB3.out (by unfold rmatch; rw [Hhd.out, decide_eq_false (p := (32 : UInt8) ∉ toL q0) (fun h => h h32), Bool.and_false]))
          clear h32 hlc
          go_wp2_with fail
          exact ⟨Hm.out, by simp [intOf]; omega⟩
        have hgt : ¬ (1 : Int) < Dc.length := by
          have h3 := cutL_one.2 h32
          omega
        have HR : Hid (rparse (toL s) = rform F (D2.map toL)) := Lib.hid (by
          rw [Hp0.out, ← HD.out, HD2.out]
          exact rfind_at Hfi.out Hno.out (by unfold rmatch; rw [Hhd.out, decide_eq_true Hw.out, decide_eq_true (p := (32 : UInt8) ∉ toL q0) h32]; rfl))
        clear h32 hlc Hnx
        have f2' : x3.cell? ⟨gF, i * 4 + 2, none⟩ = some (.string WF) := by
          have h1 := HB3.out.block gF (lt_of_heap Hf2.out)
          have h2 := HB.out.block gF (lt_of_heap Hf2.out)
          exact (World.cell?_of_block (h1.trans h2.symm)).trans f2
        have hcell : ∀ j v, (rfV F)[j]? = some v → x3.cell? ⟨gF, i * 4 + j, none⟩ = some v := fun j v hv => by
          have h1 := HB3.out.block gF (lt_of_heap Hf2.out)
          have h2 := HB.out.block gF (lt_of_heap Hf2.out)
          exact (World.cell?_of_block (h1.trans h2.symm)).trans (Hrow.out j v hv)
        have g3 : x3.cell? ⟨gF, i * 4 + 3, none⟩ = some (.string SF) := by rw [HSF.out]; exact hcell 3 _ rfl
        have hg0 : x3.cell? ⟨gF, i * 4, none⟩ = some (.int .i64 (F.kind : Nat)) := by have := hcell 0 _ rfl; rwa [Nat.add_zero] at this
        have hg1 : x3.cell? ⟨gF, i * 4 + 1, none⟩ = some (.int .i64 (F.sub : Nat)) := hcell 1 _ rfl
        have HR3 := Lib.hid ((HB3.out.block w.heap.size (lt_of_heap Hr2.out)).trans Hr2.out)
        have HS5 := Lib.hid (HS4.out.keep (Cells.of_below HB3.out))
        have HBW := Lib.hid (HB2.out.trans (HB3.out.mono HB2.out.size))
        have HF5 := Lib.hid (rforms_five HF.out)
        clear f2 f3 f2' c0 hcell hc0 HB Hrow
        by_cases hln : ¬ D2.length = F.says.length
        · have hlb : ((D2.length : Int) != (SF.size : Int)) = true := by rw [bne_iff_ne, HSF.out, mkS_size]; omega
          have Hp : Hid (rparse (toL s) = (zR, 14)) := Lib.hid (by rw [HR.out]; exact rform_len (by rw [List.length_map]; exact hln))
          clear hln
          go_wp2_with ((with_reducible refine at_store 49 ?_); refine wpList_store_row rfl 49 _ _ rfl w.heap.size (rV 0 0 nilV nilV) rfl rfl 49 (rV 0 0 nilV nilV) HR3.out sizeR rfl (rV_one rfl rfl) ?_)
          refine bodyPost_ret (res_cell2 rfl _ _ w.heap.size 49 (rV 0 0 nilV nilV) (0, 0) rfl (setRow_heap _ _ _ _ _ _ HR3.out) Tryd.underlying49 rfl sizeR) rfl ?_
          exact rp_zero Hp.out (below_row HBW.out (Nat.le_refl _) _)
        have hle := Decidable.not_not.1 hln
        have hlb : ((D2.length : Int) != (SF.size : Int)) = false := by rw [bne_eq_false_iff_eq, HSF.out, mkS_size]; omega
        have Hle := Lib.hid hle
        clear hln hle
        go_wp2_with fail
        have hg0d : x3.drew.cell? ⟨gF, i * 4, none⟩ = some (.int .i64 (F.kind : Nat)) := hg0
        have hg1d : x3.drew.cell? ⟨gF, i * 4 + 1, none⟩ = some (.int .i64 (F.sub : Nat)) := hg1
        with_reducible refine g_mixx [(0, 1), (1, 1), (2, 1), (3, 1), (4, 0), (5, 1), (6, 1), (7, 1), (8, 1), (9, 0), (10, 1), (11, 2), (12, 3)] (fun w' => w'.cell? ⟨gF, i * 4, none⟩ = some (.int .i64 (F.kind : Nat)) ∧ w'.cell? ⟨gF, i * 4 + 1, none⟩ = some (.int .i64 (F.sub : Nat))) 0 _ rfl (by kernel_rfl) (by kernel_rfl) ?_ ?_
        · exact ⟨hg0d, hg1d⟩
        intro OPS HD
        simp only [mixX, nthO, consX]
        iterate 4 ((with_reducible refine x_any (v := ?_) ?_ ?_); rotate_left; (rintro _; go_simp; first | done | rfl | (constructor <;> rfl)))
        iterate 1 ((with_reducible refine x_val (v := ?_) ?_ ?_ ?_); rotate_left; (rintro _ ⟨h1, h2⟩; go_simp; first | done | rfl | (constructor <;> rfl)); exact ⟨hg0d, hg1d⟩)
        iterate 4 ((with_reducible refine x_any (v := ?_) ?_ ?_); rotate_left; (rintro _; go_simp; first | done | rfl | (constructor <;> rfl)))
        iterate 1 ((with_reducible refine x_val (v := ?_) ?_ ?_ ?_); rotate_left; (rintro _ ⟨h1, h2⟩; go_simp; first | done | rfl | (constructor <;> rfl)); exact ⟨hg0d, hg1d⟩)
        iterate 1 ((with_reducible refine x_any (v := ?_) ?_ ?_); rotate_left; (rintro _; go_simp; first | done | rfl | (constructor <;> rfl)))
        with_reducible refine x_one ?_
        iterate 1 (with_reducible refine l_val (v := ?_) (w' := ?_) ?_ ?_; rotate_left 2; (go_simp; first | done | rfl | (constructor <;> rfl)))
        refine x_keep ⟨Cells.alloc _ _ _ _ hg0d, Cells.alloc _ _ _ _ hg1d⟩ ?_
        with_reducible refine x_three ?_
        refine wpList_store_row rfl 49 _ _ rfl x3.heap.size (rV (F.kind : Nat) (F.sub : Nat) nilV nilV) (by simp [Act.eval, Act.put]) (by simp [Act.eval, Act.put, rV, rL, nilV]) 49 (rV 0 0 nilV nilV) (heap_alloc_new x3 _) sizeR rfl (rV_one rfl rfl) ?_
        with_reducible refine x_last ?_
        with_reducible refine x_end ?_
        simp only [Act.put, List.setIfInBounds_toArray, List.set_cons_zero, List.set_cons_succ]
        obtain ⟨x4, hx4⟩ : ∃ x4, x4 = (World.drew (x3.alloc (.cells #[.int .i64 0, .int .i64 0, .slice none 0 0, .slice none 0 0] 49))).setRow x3.heap.size (rV (F.kind : Nat) (F.sub : Nat) nilV nilV) := ⟨_, rfl⟩
        rw [← hx4]
        obtain ⟨ba, hba⟩ : ∃ ba, ba = x3.heap.size := ⟨_, rfl⟩
        have hb4 : x4.heap[ba]? = some (.cells (rV (F.kind : Nat) (F.sub : Nat) nilV nilV) 49 (0, 0)) := by
          have hh : (World.drew (x3.alloc (.cells #[.int .i64 0, .int .i64 0, .slice none 0 0, .slice none 0 0] 49))).heap[x3.heap.size]? = some (.cells (rV 0 0 nilV nilV) 49 (0, 0)) := heap_alloc_new x3 _
          rw [hx4, hba]
          exact setRow_heap _ _ _ _ _ _ hh
        have hB34 : Below x3.heap.size x3 x4 := by
          rw [hx4]
          exact below_row (below_drewN ((Below.refl x3.heap.size x3).alloc (Nat.le_refl _) _) 1) (Nat.le_refl _) _
        rw [← hba]
        have hx34 := hB34.size
        have hbl4 := lt_of_heap hb4
        have h4 : x4.cell? ⟨gF, i * 4 + 3, none⟩ = some (.string SF) := (hB34.cell (World.block_lt_of_cell? x3 _ g3)).trans g3
        have hgFl : gF < ba := by rw [hba]; exact World.block_lt_of_cell? x3 _ g3
        have HB4 := Lib.hid (HBW.out.trans (hB34.mono HBW.out.size))
        have HR4 := Lib.hid ((hB34.block w.heap.size (lt_of_heap HR3.out)).trans HR3.out)
        have hrl4 : w.heap.size < ba := by rw [hba]; exact lt_of_heap HR3.out
        have HS6 := Lib.hid (HS5.out.keep (Cells.of_below hB34))
        have Hwlt : Hid (∀ k x, D2[k]? = some x → ∃ b o, A2 = some ⟨b, o, none⟩ ∧ b < ba ∧ x4.cell? ⟨b, o + k, none⟩ = some (.string x)) := Lib.hid (fun k x hk => by
          have hkl := (List.getElem?_eq_some_iff.1 hk).1
          obtain ⟨b, o, y, h1, h2, h3⟩ := str_at (w := x3) (x := D2) HS5.out hkl
          obtain ⟨b', o', y', h1', h2', h3'⟩ := str_at (w := x4) (x := D2) HS6.out hkl
          rw [h1] at h1'
          cases h1'
          rw [hk] at h2'
          cases h2'
          exact ⟨b, o, h1, by rw [hba]; exact World.block_lt_of_cell? x3 _ h3, h3'⟩)
        have Hb4 := Lib.hid hb4
        have Hh4 := Lib.hid h4
        have hD5 : D2.length ≤ 5 := by rw [Hle.out]; exact HF5.out
        clear hx4 hb4 hB34 hg0d hg1d hg0 hg1 g3 hx34 h4 HD hba
        go_wp2_with fail
        go_loopw [11] (fun kv wy => NRel x4 ba F D2 kv wy) (fun kv _ => D2.length - (intOf kv).toNat)
        case atStart => exact ⟨0, [], nilV, by omega, rfl, NumAt.zero _ _, by simp, Fr.refl _ _, Hb4.out, World.ownsRow_nil _ _ _ _⟩
        case round =>
          obtain ⟨k, acc, vn, hk, rfl, hat, hac, hfr, hb, hown⟩ := hrel
          have Hat := Lib.hid hat
          have Hfr := Lib.hid hfr
          have Hb := Lib.hid hb
          have Hown := Lib.hid hown
          have hxz := hfr.size
          have hsf : wr.cell? ⟨gF, i * 4 + 3, none⟩ = some (.string SF) := (World.cell?_of_block (hfr.block gF (by omega) (by simp; omega))).trans Hh4.out
          clear hat hfr hb hown
          by_cases hlt : k < D2.length
          · have hkI : (k : Int) < D2.length := by omega
            have hkr : (0 : Int) ≤ k := by omega
            have hks : k < F.says.length := by rw [← Hle.out]; exact hlt
            have hkS : k < SF.size := by rw [HSF.out, mkS_size]; exact hks
            obtain ⟨ch, hch⟩ : ∃ ch, ch = F.says.getD k 0 := ⟨_, rfl⟩
            have hcb : SF[k] = ch := (str_byte hkS).trans (by rw [hch, HSF.out, toL_mkS])
            obtain ⟨xk, hxk⟩ : ∃ x, D2[k]? = some x := ⟨_, List.getElem?_eq_getElem hlt⟩
            obtain ⟨b2, o2, rfl, hb2, hc2⟩ := Hwlt.out k xk hxk
            have hcx : wr.cell? ⟨b2, o2 + k, none⟩ = some (.string xk) := (World.cell?_of_block (Hfr.out.block b2 (by omega) (by simp; omega))).trans hc2
            have hxs : xk.size ≤ 1048576 := HDz2.out xk (List.mem_of_getElem? hxk)
            have Hch := Lib.hid (getD_at hks hch)
            have Hxk := Lib.hid (map_at hxk)
            have hkSI : (k : Int) < SF.size := by omega
            clear hch hxk hc2
            by_cases hc : ¬ ch = 110
            · have hcI : ((ch.toNat : Int) == 110) = false := by
                rw [beq_eq_false_iff_ne]
                intro h
                have h2 : (110 : UInt8).toNat = 110 := rfl
                exact hc (UInt8.toNat_inj.1 (by omega))
              have Hm : Hid (NRel x4 ba F D2 (.int .i64 ((k : Int) + 1)) wr) := Lib.hid ⟨k + 1, acc, vn, by omega, by go_num, Hat.out.skip Hch.out Hxk.out hc, by omega, Hfr.out, Hb.out, Hown.out⟩
              clear hc
              go_wp2_with fail
              exact ⟨Hm.out, by simp [intOf]; omega⟩
            have hc := Decidable.not_not.1 hc
            have hcI : ((ch.toNat : Int) == 110) = true := by rw [hc]; rfl
            have Hc := Lib.hid hc
            clear hc
            go_wp2_with fail
            refine (number_ref xk hxs wr).mono ?_
            rintro e w1 ⟨rfl, n, ok, rfl, hn⟩
            cases ok with
            | false =>
              rw [if_neg (by decide)] at hn
              have Hp : Hid (rparse (toL s) = (zR, 6)) := Lib.hid (by rw [HR.out]; exact rform_num (by rw [List.length_map]; exact Hle.out) (Hat.out.fail Hch.out Hxk.out Hc.out hn))
              have HRR := Lib.hid ((Hfr.out.block w.heap.size (by omega) (by simp; omega)).trans HR4.out)
              have HBx := Lib.hid (HB4.out.trans (Hfr.out.below (B := w.heap.size) HB4.out.size (by intro q hq; simp at hq; omega)))
              clear hn
              go_wp2_with ((with_reducible refine at_store 49 ?_); refine wpList_store_row rfl 49 _ _ rfl w.heap.size (rV 0 0 nilV nilV) rfl rfl 49 (rV 0 0 nilV nilV) HRR.out sizeR rfl (rV_one rfl rfl) ?_)
              refine bodyPost_ret (res_cell2 rfl _ _ w.heap.size 49 (rV 0 0 nilV nilV) (0, 0) rfl (setRow_heap _ _ _ _ _ _ HRR.out) Tryd.underlying49 rfl sizeR) rfl ?_
              exact rp_zero Hp.out (below_row HBx.out (Nat.le_refl _) _)
            | true =>
              rw [if_pos rfl] at hn
              have Hn := Lib.hid hn
              obtain ⟨Av, cv, rfl, _, _, _, _⟩ := own_form Hown.out
              have hc3 : wr.cell? ⟨ba, 3, none⟩ = some (.slice Av acc.length cv) := (blk_cells Hb.out).1 3
              have hac5 : acc.length ≤ 5 := by omega
              obtain ⟨iI, hiI2, hzI, hsI, hbI⟩ := info_parts infoInt
              clear hn
              go_wp2_with (first | (at_builtin; refine wpList_append_own _ rfl _ _ 47 rfl x4.heap.size 3 iI (.int .i64 0) 1 8 Tryd.underlying47 hiI2 hzI hsI hbI rfl (by omega) (.slice Av acc.length cv) acc.length (intsV acc) rfl (Hown.out.alloc _) ⟨wr.heap.size, 0, none⟩ 1 1 [.int .i64 n] rfl rfl (fun j v hv => World.news_of_block (w := wr.alloc _) (heap_alloc_new wr _) j v hv) (ints_one [n]) (by unfold maxLen; omega) (by omega) (by simp; omega) ?_))
              intro v1 wp hown1 hgrow1 _
              have hnb : ∀ q, (Value.slice Av acc.length cv).ownBlock = some q → x4.heap.size ≤ q := fun q hq => (own_blk Hown.out q hq).1
              have hgg : ∀ q, q < wr.heap.size → q < x4.heap.size → wp.heap[q]? = wr.heap[q]? := fun q hq hq0 => (hgrow1.block q (by simp; omega) (fun e => by have := hnb q e.symm; omega)).trans (Below.heap_alloc _ _ _ hq)
              have hb5 := (hgg ba (lt_of_heap Hb.out) hbl4).trans Hb.out
              have hfr5 : Fr [ba] x4 wp := ⟨hgrow1.os.trans Hfr.out.os, hgrow1.tape.trans Hfr.out.tape, hgrow1.output.trans Hfr.out.output, by have := hgrow1.size; simp at this; omega, fun q hq hn => (hgg q (by omega) hq).trans (Hfr.out.block q hq hn)⟩
              have hc5 : wp.cell? ⟨ba, 3, none⟩ = some (.slice Av acc.length cv) := (blk_cells hb5).1 3
              have hz5 := (blk_cells hb5).2.1 3
              obtain ⟨Av1, cv1, rfl, _, _, _, _⟩ := own_form hown1
              have hm : NRel x4 ba F D2 (.int .i64 ((k : Int) + 1)) (wp.setCell ⟨ba, 3, none⟩ (.slice Av1 (acc.length + 1) cv1)) := by
                refine ⟨k + 1, acc ++ [n], .slice Av1 (acc.length + 1) cv1, by omega, by go_num, Hat.out.take Hch.out Hxk.out Hc.out Hn.out, by simp; omega, hfr5.trans (Fr.setCell [ba] wp ⟨ba, 3, none⟩ _ (by simp)), ?_, ?_⟩
                · rw [heap_setCell_at hb5]
                  rfl
                · have e1 : (acc ++ [n]).length = acc.length + 1 := by simp
                  have e2 : intsV (acc ++ [n]) = intsV acc ++ [.int .i64 n] := by simp [intsV]
                  rw [e1, e2]
                  exact own_keep hown1 fun q cs hq => by
                    rw [(Fr.setCell [ba] wp ⟨ba, 3, none⟩ _ (by simp)).block q (lt_of_heap hq) (by
                      rintro hqb
                      simp only [List.mem_singleton] at hqb
                      subst hqb
                      rw [hb5] at hq
                      cases hq)]
                    exact hq
              have Hm := Lib.hid hm
              clear hm hown1 hgrow1 hnb hgg hb5 hfr5 hc3
              go_wp2_with fail
              exact ⟨Hm.out, by simp [intOf]; omega⟩
          · have hkI : ¬ (k : Int) < D2.length := by omega
            have hkd : k = D2.length := by omega
            have HN : Hid (numsR F.says (D2.map toL) = some acc) := Lib.hid (Hat.out.end_ (by rw [← Hle.out]; omega))
            have HBx := Lib.hid (HB4.out.trans (Hfr.out.below (B := w.heap.size) HB4.out.size (by intro q hq; simp at hq; omega)))
            have HR5 := Lib.hid ((Hfr.out.block w.heap.size (by omega) (by simp; omega)).trans HR4.out)
            have Hw5 : Hid (∀ k x, D2[k]? = some x → ∃ b o, A2 = some ⟨b, o, none⟩ ∧ b < ba ∧ wr.cell? ⟨b, o + k, none⟩ = some (.string x)) := Lib.hid (fun k x hk => by
              obtain ⟨b, o, h1, h2, h3⟩ := Hwlt.out k x hk
              exact ⟨b, o, h1, h2, (World.cell?_of_block (Hfr.out.block b (by omega) (by simp; omega))).trans h3⟩)
            have hac5 : acc.length ≤ 5 := by omega
            have Hh5 := Lib.hid hsf
            have hb5l := lt_of_heap Hb.out
            obtain ⟨An, cn, rfl, _, _, _, _⟩ := own_form Hown.out
            have Hb5 := Lib.hid Hb.out
            clear hlt Hat Hfr HB4 HR4 Hwlt Hh4 Hb4 hsf hkd
            go_wp2_with fail
            generalize wr = x5 at *
            go_loopw [14] (fun kv wy => TRel x5 ba F D2 (.slice An acc.length cn) kv wy) (fun kv _ => D2.length - (intOf kv).toNat)
            case atStart => exact ⟨0, [], nilV, _, by omega, rfl, TextAt.zero _ _, SubAt.zero _ _, by simp, Fr.refl _ _, Hb.out, World.ownsRow_nil _ _ _ _⟩
            case round =>
              clear hk hac
              obtain ⟨k, L, vt, sb, hk, rfl, hat, hsa, hac, hfr, hb, hown⟩ := hrel
              have Hat := Lib.hid hat
              have Hsa := Lib.hid hsa
              have Hfr := Lib.hid hfr
              have Hb := Lib.hid hb
              have Hot := Lib.hid hown
              have hxz2 := hfr.size
              have hsf : wr.cell? ⟨gF, i * 4 + 3, none⟩ = some (.string SF) := (World.cell?_of_block (hfr.block gF (by omega) (by simp; omega))).trans Hh5.out
              clear hat hsa hfr hb hown
              by_cases hlt : k < D2.length
              · have hkI : (k : Int) < D2.length := by omega
                have hkr : (0 : Int) ≤ k := by omega
                have hks : k < F.says.length := by rw [← Hle.out]; exact hlt
                have hkS : k < SF.size := by rw [HSF.out, mkS_size]; exact hks
                obtain ⟨ch, hch⟩ : ∃ ch, ch = F.says.getD k 0 := ⟨_, rfl⟩
                have hcb : SF[k] = ch := (str_byte hkS).trans (by rw [hch, HSF.out, toL_mkS])
                obtain ⟨xk, hxk⟩ : ∃ x, D2[k]? = some x := ⟨_, List.getElem?_eq_getElem hlt⟩
                obtain ⟨b2, o2, rfl, hb2, hc2⟩ := Hw5.out k xk hxk
                have hcx : wr.cell? ⟨b2, o2 + k, none⟩ = some (.string xk) := (World.cell?_of_block (Hfr.out.block b2 (by omega) (by simp; omega))).trans hc2
                have Hch := Lib.hid (getD_at hks hch)
                have Hxk := Lib.hid (map_at hxk)
                have hkSI : (k : Int) < SF.size := by omega
                clear hch hxk hc2
                by_cases hc : ch = 116
                · have hcI : ((ch.toNat : Int) == 116) = true := by rw [hc]; rfl
                  have Hc := Lib.hid hc
                  have hL5 : L.length ≤ 5 := by omega
                  obtain ⟨Av, cv, rfl, _, _, _, _⟩ := own_form Hot.out
                  have hc2 : wr.cell? ⟨ba, 2, none⟩ = some (.slice Av L.length cv) := (blk_cells Hb.out).1 2
                  have hc2d : wr.drew.cell? ⟨ba, 2, none⟩ = some (.slice Av L.length cv) := hc2
                  have hcxd : wr.drew.cell? ⟨b2, o2 + k, none⟩ = some (.string xk) := hcx
                  obtain ⟨iS, hiS, hzS, hsS, hbS⟩ := info_parts infoStr1
                  have Hod : Hid (wr.drew.ownsRow x5.heap.size 9 1 (.slice Av L.length cv) L.length (txs L)) := Lib.hid (own_keep Hot.out fun q cs hq => hq)
                  clear hc
                  go_wp2_with fail
                  with_reducible refine g_mixx [(0, 1), (1, 0), (2, 1), (3, 1), (4, 1), (5, 0), (6, 2), (7, 3), (8, 1), (9, 3)] (fun w' => w'.cell? ⟨ba, 2, none⟩ = some (.slice Av L.length cv) ∧ w'.cell? ⟨b2, o2 + k, none⟩ = some (.string xk)) 0 _ rfl (by kernel_rfl) (by kernel_rfl) ?_ ?_
                  · exact ⟨hc2d, hcxd⟩
                  intro OPS HD
                  simp only [mixX, nthO, consX]
                  iterate 1 ((with_reducible refine x_any (v := ?_) ?_ ?_); rotate_left; (rintro _; go_simp; first | done | rfl | (constructor <;> rfl)))
                  iterate 1 ((with_reducible refine x_val (v := ?_) ?_ ?_ ?_); rotate_left; (rintro _ ⟨h1, h2⟩; go_simp; first | done | rfl | (constructor <;> rfl)); exact ⟨hc2d, hcxd⟩)
                  iterate 3 ((with_reducible refine x_any (v := ?_) ?_ ?_); rotate_left; (rintro _; go_simp; first | done | rfl | (constructor <;> rfl)))
                  iterate 1 ((with_reducible refine x_val (v := ?_) ?_ ?_ ?_); rotate_left; (rintro _ ⟨h1, h2⟩; go_simp; first | done | rfl | (constructor <;> rfl)); exact ⟨hc2d, hcxd⟩)
                  with_reducible refine x_one ?_
                  iterate 1 (with_reducible refine l_val (v := ?_) (w' := ?_) ?_ ?_; rotate_left 2; (go_simp; first | done | rfl | (constructor <;> rfl)))
                  refine x_keep ⟨Cells.alloc _ _ _ _ hc2d, Cells.alloc _ _ _ _ hcxd⟩ ?_
                  with_reducible refine x_three ?_
                  refine wpList_append_own _ rfl (.tmp 138) (.tmp 143) 39 rfl x5.heap.size 9 iS (.string ByteArray.empty) 1 16 Tryd.underlying39 hiS hzS hsS hbS rfl (by omega) (.slice Av L.length cv) L.length (txs L) ?_ (Hod.out.alloc _) ⟨wr.drew.heap.size, 0, none⟩ 1 1 [.string xk] ?_ rfl (fun j v hv => World.news_of_block (w := wr.drew.alloc _) (heap_alloc_new wr.drew _) j v hv) (txs_one [xk]) (by unfold maxLen; omega) (by omega) (by simp; omega) ?_
                  · simp [Act.eval, Act.put]
                  · simp [Act.eval, Act.put]
                  intro v1 wp hown1 hgrow1 _
                  have hx5d : x5.heap.size ≤ wr.drew.heap.size := hxz2
                  have hnb : ∀ q, (Value.slice Av L.length cv).ownBlock = some q → x5.heap.size ≤ q := fun q hq => (own_blk Hod.out q hq).1
                  have hgg : ∀ q, q < wr.heap.size → q < x5.heap.size → wp.heap[q]? = wr.heap[q]? := fun q hq hq0 => (hgrow1.block q (by simp; omega) (fun e => by have := hnb q e.symm; omega)).trans (Below.heap_alloc wr.drew _ _ hq)
                  have hb6 := (hgg ba (lt_of_heap Hb.out) hb5l).trans Hb.out
                  have hfr6 : Fr [ba] x5 wp := ⟨hgrow1.os.trans Hfr.out.os, hgrow1.tape.trans Hfr.out.tape, hgrow1.output.trans Hfr.out.output, by have := hgrow1.size; simp at this; omega, fun q hq hn => (hgg q (by omega) hq).trans (Hfr.out.block q hq hn)⟩
                  have hc6 : wp.cell? ⟨ba, 2, none⟩ = some (.slice Av L.length cv) := (blk_cells hb6).1 2
                  have hz6 := (blk_cells hb6).2.1 2
                  obtain ⟨Av1, cv1, rfl, _, _, _, _⟩ := own_form hown1
                  have hm : TRel x5 ba F D2 (.slice An acc.length cn) (.int .i64 ((k : Int) + 1)) (wp.setCell ⟨ba, 2, none⟩ (.slice Av1 (L.length + 1) cv1)) := by
                    refine ⟨k + 1, L ++ [xk], .slice Av1 (L.length + 1) cv1, sb, by omega, by go_num, by rw [List.map_append]; exact Hat.out.take Hch.out Hxk.out Hc.out, Hsa.out.skip HF.out Hch.out (by rw [Hc.out]; decide), by simp; omega, hfr6.trans (Fr.setCell [ba] wp ⟨ba, 2, none⟩ _ (by simp)), ?_, ?_⟩
                    · rw [heap_setCell_at hb6]
                      rfl
                    · have e1 : (L ++ [xk]).length = L.length + 1 := by simp
                      rw [e1]
                      have h7 := txs_push hown1
                      rw [e1] at h7
                      exact own_keep h7 fun q cs hq => by
                        rw [(Fr.setCell [ba] wp ⟨ba, 2, none⟩ _ (by simp)).block q (lt_of_heap hq) (by
                          rintro hqb
                          simp only [List.mem_singleton] at hqb
                          subst hqb
                          rw [hb6] at hq
                          cases hq)]
                        exact hq
                  have Hm := Lib.hid hm
                  clear hm hown1 hgrow1 hnb hgg hb6 hfr6 hc2 hc2d hcxd
                  with_reducible refine x_last ?_
                  iterate 1 ((with_reducible refine x_any (v := ?_) ?_ ?_); rotate_left; (rintro _; go_simp; first | done | rfl | (constructor <;> rfl)))
                  with_reducible refine x_three ?_
                  with_reducible refine l_skip (w' := wp.setCell ⟨ba, 2, none⟩ (.slice Av1 (L.length + 1) cv1)) ?_ ?_
                  · go_simp
                  with_reducible refine x_last ?_
                  with_reducible refine x_end ?_
                  simp only [Act.put, List.setIfInBounds_toArray, List.set_cons_zero, List.set_cons_succ]
                  clear hc6 hz6 hcx
                  go_wp2_with fail
                  exact ⟨Hm.out, by simp [intOf]; omega⟩
                have hcI : ((ch.toNat : Int) == 116) = false := by
                  rw [beq_eq_false_iff_ne]
                  intro h
                  have h2 : (116 : UInt8).toNat = 116 := rfl
                  exact hc (UInt8.toNat_inj.1 (by omega))
                have Hc := Lib.hid hc
                clear hc
                by_cases hc : ¬ ch = 107
                · have hcK : ((ch.toNat : Int) == 107) = false := by
                    rw [beq_eq_false_iff_ne]
                    intro h
                    have h2 : (107 : UInt8).toNat = 107 := rfl
                    exact hc (UInt8.toNat_inj.1 (by omega))
                  have Hm : Hid (TRel x5 ba F D2 (.slice An acc.length cn) (.int .i64 ((k : Int) + 1)) wr) := Lib.hid ⟨k + 1, L, vt, sb, by omega, by go_num, Hat.out.skip Hch.out Hxk.out Hc.out, Hsa.out.skip HF.out Hch.out hc, by omega, Hfr.out, Hb.out, Hot.out⟩
                  clear hc
                  go_wp2_with fail
                  exact ⟨Hm.out, by simp [intOf]; omega⟩
                have hc := Decidable.not_not.1 hc
                subst hc
                have hll : (D2.map toL).length = F.says.length := by rw [List.length_map]; exact Hle.out
                obtain rfl : sb = 0 := Hsa.out.start HF.out hll Hch.out Hxk.out
                have Hll := Lib.hid hll
                clear hll hcI
                go_wp2_with fail
                refine (rkinds_any _).mono ?_
                rintro e x6 ⟨rfl, hx6⟩
                obtain ⟨gK, hgK⟩ : ∃ gK, gK = wr.heap.size := ⟨_, rfl⟩
                have hK6 : x6.heap[gK]? = some (.cells (txs KW).toArray 9 (0, 0)) := by rw [hx6, hgK]; exact heap_alloc_new wr _
                have hB6 : Below wr.heap.size wr x6 := by rw [hx6]; exact (Below.refl _ _).alloc (Nat.le_refl _) _
                have hbal := lt_of_heap Hb.out
                have hbK : ba < gK := by omega
                have hK6l := lt_of_heap hK6
                have Hb6 := Lib.hid ((hB6.block ba hbal).trans Hb.out)
                have Hfr6 := Lib.hid (Hfr.out.trans (Fr.of_below hB6 [ba]))
                have Hot6 : Hid (x6.ownsRow x5.heap.size 9 1 vt L.length (txs L)) := Lib.hid (own_keep Hot.out fun q cs hq => (hB6.block q (lt_of_heap hq)).trans hq)
                have hcx6 : x6.cell? ⟨b2, o2 + k, none⟩ = some (.string xk) := (hB6.cell (World.block_lt_of_cell? wr _ hcx)).trans hcx
                have HK6 := Lib.hid hK6
                have Hcx6 := Lib.hid hcx6
                have h56 : x5.heap.size ≤ x6.heap.size := Nat.le_trans hxz2 hB6.size
                have h7l : L.length ≤ 5 := by omega
                rw [← hgK]
                clear hx6 hgK hK6 hB6 hcx6 hcx Hot Hfr Hb hsf hcb hbal hxz2
                go_wp2_with fail
                generalize wr = x7 at *
                go_loopw [16] (fun jv wz => JRel x6 ba F (toL xk) vt (.slice An acc.length cn) jv wz) (fun jv _ => 7 - (intOf jv).toNat)
                case atStart => exact ⟨0, 0, by omega, rfl, KindAt.zero _, Fr.refl _ _, Hb6.out⟩
                case round =>
                  obtain ⟨j, sj, hj, rfl, hkat, hfrj, hbj⟩ := hrel
                  have Hkat := Lib.hid hkat
                  have Hfrj := Lib.hid hfrj
                  have Hbj := Lib.hid hbj
                  clear hkat hfrj hbj
                  have hjz := Hfrj.out.size
                  have hcxj : wr.drew.cell? ⟨b2, o2 + k, none⟩ = some (.string xk) := (World.cell?_of_block (w' := wr.drew) (Hfrj.out.block b2 (by omega) (by simp; omega))).trans Hcx6.out
                  by_cases hjl : j < 7
                  · have hjI : (j : Int) < 7 := by omega
                    have hjr : (0 : Int) ≤ j := by omega
                    obtain ⟨l, hkt⟩ := kt_at ⟨j, hjl⟩
                    have hkt' : KT[j]? = some (((j + 1 : Nat) : Int), l) := hkt
                    have hkw : (txs KW)[j]? = some (.string (mkS l)) := by
                      rw [txs, KW, List.getElem?_map, List.getElem?_map, hkt']
                      rfl
                    obtain ⟨Q, hQ⟩ : ∃ Q, Q = mkS l := ⟨_, rfl⟩
                    have hcq : wr.drew.cell? ⟨gK, j, none⟩ = some (.string Q) := by
                      have h1 := (Hfrj.out.block gK hK6l (by simp; omega)).trans HK6.out
                      have h2 := (blk_cells h1).1 j
                      rw [List.getElem?_toArray, hkw, ← hQ] at h2
                      exact h2
                    have Hkt := Lib.hid hkt'
                    have HQ := Lib.hid hQ
                    clear hkt hkt' hkw hQ
                    have hseq2 := str_eq Q xk
                    by_cases hx : ¬ l = toL xk
                    · have hne : ¬ Q = xk := fun e => hx (by rw [← e, HQ.out, toL_mkS])
                      rw [decide_eq_false hne] at hseq2
                      have Hm : Hid (JRel x6 ba F (toL xk) vt (.slice An acc.length cn) (.int .i64 ((j : Int) + 1)) wr.drew) := Lib.hid ⟨j + 1, sj, by omega, by go_num, Hkat.out.no Hkt.out hx, Hfrj.out.drewN 1, Hbj.out⟩
                      clear hx hne
                      go_wp2_with fail
                      with_reducible refine g_mixx [(0, 1), (1, 1), (2, 1), (3, 0), (4, 1), (5, 1), (6, 1), (7, 0), (8, 1)] (fun w' => w'.cell? ⟨gK, j, none⟩ = some (.string Q) ∧ w'.cell? ⟨b2, o2 + k, none⟩ = some (.string xk)) 0 _ rfl (by kernel_rfl) (by kernel_rfl) ?_ ?_
                      · exact ⟨hcq, hcxj⟩
                      intro OPS HD
                      simp only [mixX, nthO, consX]
                      iterate 3 ((with_reducible refine x_any (v := ?_) ?_ ?_); rotate_left; (rintro _; go_simp; first | done | rfl | (constructor <;> rfl)))
                      iterate 1 ((with_reducible refine x_val (v := ?_) ?_ ?_ ?_); rotate_left; (rintro _ ⟨h1, h2⟩; go_simp; first | done | rfl | (constructor <;> rfl)); exact ⟨hcq, hcxj⟩)
                      iterate 3 ((with_reducible refine x_any (v := ?_) ?_ ?_); rotate_left; (rintro _; go_simp; first | done | rfl | (constructor <;> rfl)))
                      iterate 1 ((with_reducible refine x_val (v := ?_) ?_ ?_ ?_); rotate_left; (rintro _ ⟨h1, h2⟩; go_simp; first | done | rfl | (constructor <;> rfl)); exact ⟨hcq, hcxj⟩)
                      iterate 1 ((with_reducible refine x_any (v := ?_) ?_ ?_); rotate_left; (rintro _; go_simp; first | done | rfl | (constructor <;> rfl)))
                      with_reducible refine x_end ?_
                      simp only [Act.put, List.setIfInBounds_toArray, List.set_cons_zero, List.set_cons_succ]
                      clear HD
                      go_wp2_with fail
                      exact ⟨Hm.out, by simp [intOf]; omega⟩
                    have hx := Decidable.not_not.1 hx
                    have heq : Q = xk := by
                      apply toL_inj
                      rw [HQ.out, toL_mkS, hx]
                    rw [decide_eq_true heq] at hseq2
                    have hbd : wr.drew.heap[ba]? = some (.cells (rV (F.kind : Nat) sj vt (.slice An acc.length cn)) 49 (0, 0)) := Hbj.out
                    have hc1j : wr.drew.cell? ⟨ba, 1, none⟩ = some (.int .i64 sj) := (blk_cells hbd).1 1
                    have hz1j := (blk_cells hbd).2.1 1
                    have hjw : IntKind.i64.wrap ((j : Int) + 1) = (j : Int) + 1 := by rw [IntKind.wrap_i64]; omega
                    have Hm : Hid (JRel x6 ba F (toL xk) vt (.slice An acc.length cn) (.int .i64 ((j : Int) + 1)) (wr.drew.setCell ⟨ba, 1, none⟩ (.int .i64 ((j : Int) + 1)))) := Lib.hid ⟨j + 1, (j : Int) + 1, by omega, by go_num, KindAt.yes (i := (j : Int) + 1) (by rw [Hkt.out]; rfl) hx, (Hfrj.out.drewN 1).trans (Fr.setCell [ba] wr.drew ⟨ba, 1, none⟩ _ (by simp)), by rw [heap_setCell_at hbd]; rfl⟩
                    clear hx heq hbd
                    go_wp2_with fail
                    with_reducible refine g_mixx [(0, 1), (1, 1), (2, 1), (3, 0), (4, 1), (5, 1), (6, 1), (7, 0), (8, 1)] (fun w' => w'.cell? ⟨gK, j, none⟩ = some (.string Q) ∧ w'.cell? ⟨b2, o2 + k, none⟩ = some (.string xk)) 0 _ rfl (by kernel_rfl) (by kernel_rfl) ?_ ?_
                    · exact ⟨hcq, hcxj⟩
                    intro OPS HD
                    simp only [mixX, nthO, consX]
                    iterate 3 ((with_reducible refine x_any (v := ?_) ?_ ?_); rotate_left; (rintro _; go_simp; first | done | rfl | (constructor <;> rfl)))
                    iterate 1 ((with_reducible refine x_val (v := ?_) ?_ ?_ ?_); rotate_left; (rintro _ ⟨h1, h2⟩; go_simp; first | done | rfl | (constructor <;> rfl)); exact ⟨hcq, hcxj⟩)
                    iterate 3 ((with_reducible refine x_any (v := ?_) ?_ ?_); rotate_left; (rintro _; go_simp; first | done | rfl | (constructor <;> rfl)))
                    iterate 1 ((with_reducible refine x_val (v := ?_) ?_ ?_ ?_); rotate_left; (rintro _ ⟨h1, h2⟩; go_simp; first | done | rfl | (constructor <;> rfl)); exact ⟨hcq, hcxj⟩)
                    iterate 1 ((with_reducible refine x_any (v := ?_) ?_ ?_); rotate_left; (rintro _; go_simp; first | done | rfl | (constructor <;> rfl)))
                    with_reducible refine x_end ?_
                    simp only [Act.put, List.setIfInBounds_toArray, List.set_cons_zero, List.set_cons_succ]
                    clear HD hcq hcxj
                    go_wp2_with fail
                    exact ⟨Hm.out, by simp [intOf]; omega⟩
                  · have hjI : ¬ (j : Int) < 7 := by omega
                    have hj7 : j = 7 := by omega
                    subst hj7
                    have hsj := Hkat.out.end_
                    have hc1j : wr.cell? ⟨ba, 1, none⟩ = some (.int .i64 sj) := (blk_cells Hbj.out).1 1
                    have Hsj := Lib.hid hsj
                    clear hsj hjl hj
                    by_cases hs0 : sj = 0
                    · have hs0b : (sj == 0) = true := by rw [hs0]; rfl
                      have Hp : Hid (rparse (toL s) = (zR, 11)) := Lib.hid (by rw [HR.out]; exact rform_bad HF.out Hll.out Hch.out Hxk.out (by rw [← Hsj.out]; exact hs0) HN.out)
                      have hw0 : w.heap.size < x5.heap.size := by omega
                      have HRR := Lib.hid ((Hfrj.out.block w.heap.size (by omega) (by simp; omega)).trans ((Hfr6.out.block w.heap.size hw0 (by simp; omega)).trans HR5.out))
                      have HBy := Lib.hid (HBx.out.trans ((Hfr6.out.trans Hfrj.out).below (B := w.heap.size) HBx.out.size (by intro q hq; simp at hq; omega)))
                      clear hs0
                      go_wp2_with ((with_reducible refine at_store 49 ?_); refine wpList_store_row rfl 49 _ _ rfl w.heap.size (rV 0 0 nilV nilV) rfl rfl 49 (rV 0 0 nilV nilV) HRR.out sizeR rfl (rV_one rfl rfl) ?_)
                      refine bodyPost_ret (res_cell2 rfl _ _ w.heap.size 49 (rV 0 0 nilV nilV) (0, 0) rfl (setRow_heap _ _ _ _ _ _ HRR.out) Tryd.underlying49 rfl sizeR) rfl ?_
                      exact rp_zero Hp.out (below_row HBy.out (Nat.le_refl _) _)
                    · have hs0b : (sj == 0) = false := beq_eq_false_iff_ne.2 hs0
                      have Hm : Hid (TRel x5 ba F D2 (.slice An acc.length cn) (.int .i64 ((k : Int) + 1)) wr) := Lib.hid ⟨k + 1, L, vt, sj, by omega, by go_num, Hat.out.skip Hch.out Hxk.out Hc.out, by rw [Hsj.out]; exact SubAt.take HF.out Hll.out Hch.out Hxk.out (by rw [← Hsj.out]; exact hs0), by omega, Hfr6.out.trans Hfrj.out, Hbj.out, own_keep Hot6.out fun q cs hq => by
                        rw [Hfrj.out.block q (lt_of_heap hq) (by
                          rintro hqb
                          simp only [List.mem_singleton] at hqb
                          subst hqb
                          rw [Hb6.out] at hq
                          cases hq)]
                        exact hq⟩
                      clear hs0
                      go_wp2_with fail
                      exact ⟨Hm.out, by simp [intOf]; omega⟩
              · have hkI : ¬ (k : Int) < D2.length := by omega
                have hkd : k = D2.length := by omega
                have hT : textsR F.says (D2.map toL) = L.map toL := Hat.out.end_ (by rw [← Hle.out]; omega)
                have hS : SubAt F (D2.map toL) F.says.length sb := by
                  have := Hsa.out
                  rwa [hkd, Hle.out] at this
                have Hp : Hid (rparse (toL s) = (⟨(F.kind : Nat), sb, L.map toL, acc⟩, 0)) := Lib.hid (by rw [HR.out]; exact rform_end HF.out (by rw [List.length_map]; exact Hle.out) HN.out hT hS)
                obtain ⟨Av, cv, rfl, _, _, _, _⟩ := own_form Hot.out
                have hw0 : w.heap.size < x5.heap.size := by omega
                have HRR := Lib.hid ((Hfr.out.block w.heap.size hw0 (by simp; omega)).trans HR5.out)
                have HBy := Lib.hid (HBx.out.trans (Hfr.out.below (B := w.heap.size) HBx.out.size (by intro q hq; simp at hq; omega)))
                have Hb7 : Hid (wr.heap[ba]? = some (.cells (rV (F.kind : Nat) sb (.slice Av L.length cv) (.slice An acc.length cn)) 49 (0, 0))) := Lib.hid Hb.out
                clear hlt hkd hT hS
                go_wp2_with (first
                  | ((with_reducible refine at_load 49 ?_); refine wpList_load_row rfl 49 _ rfl ba rfl 49 (rV (F.kind : Nat) sb (.slice Av L.length cv) (.slice An acc.length cn)) (0, 0) _ Hb7.out Tryd.underlying49 rfl sizeR ?_)
                  | ((with_reducible refine at_store 49 ?_); refine wpList_store_row rfl 49 _ _ rfl w.heap.size (rV (F.kind : Nat) sb (.slice Av L.length cv) (.slice An acc.length cn)) rfl rfl 49 (rV 0 0 nilV nilV) HRR.out sizeR rfl (rV_one rfl rfl) ?_))
                refine bodyPost_ret (res_cell2 rfl _ _ w.heap.size 49 (rV (F.kind : Nat) sb (.slice Av L.length cv) (.slice An acc.length cn)) (0, 0) rfl (setRow_heap _ _ _ _ _ _ HRR.out) Tryd.underlying49 rfl sizeR) rfl ?_
                have hk1 : ∀ (t : TypeId) (q : Nat) (cs : Array Value), t ≠ 49 → wr.heap[q]? = some (.cells cs t (0, 0)) → (wr.setRow w.heap.size (rV (F.kind : Nat) sb (.slice Av L.length cv) (.slice An acc.length cn))).heap[q]? = some (.cells cs t (0, 0)) := fun t q cs ht hq => by
                  rw [setRow_other _ _ _ _ (by
                    rintro rfl
                    rw [HRR.out] at hq
                    cases hq
                    exact ht rfl)]
                  exact hq
                have o1 := own_keep Hot.out fun q cs hq => hk1 _ q cs (by decide) hq
                have o2 := own_keep Hown.out fun q cs hq => hk1 _ q cs (by decide) (by
                  rw [Hfr.out.block q (lt_of_heap hq) (by
                    rintro hqb
                    simp only [List.mem_singleton] at hqb
                    subst hqb
                    rw [Hb5.out] at hq
                    cases hq)]
                  exact hq)
                obtain ⟨A5, c5, h5, s5⟩ := row_sl o1
                cases h5
                obtain ⟨A6, c6, h6, s6⟩ := row_sl o2
                cases h6
                exact ⟨_, by rw [Hp.out]; rfl, by rw [Hp.out]; exact ⟨Av, cv, An, cn, L, rfl, rfl, s5, s6⟩, below_row HBy.out (Nat.le_refl _) _⟩
      · have hiI : ¬ (i : Int) < 15 := by omega
        have hi15 : i = 15 := by omega
        subst hi15
        have Hp : Hid (rparse (toL s) = (zR, 7)) := Lib.hid (by
          rw [Hp0.out, ← HD.out]
          exact rfind_none Hno.out)
        have HRR := Lib.hid ((HB.out.block w.heap.size (lt_of_heap Hr2.out)).trans Hr2.out)
        have HBx := Lib.hid (HB2.out.trans (HB.out.mono HB2.out.size))
        go_wp2_with ((with_reducible refine at_store 49 ?_); refine wpList_store_row rfl 49 _ _ rfl w.heap.size (rV 0 0 nilV nilV) rfl rfl 49 (rV 0 0 nilV nilV) HRR.out sizeR rfl (rV_one rfl rfl) ?_)
        refine bodyPost_ret (res_cell2 rfl _ _ w.heap.size 49 (rV 0 0 nilV nilV) (0, 0) rfl (setRow_heap _ _ _ _ _ _ HRR.out) Tryd.underlying49 rfl sizeR) rfl ?_
        exact rp_zero Hp.out (below_row HBx.out (Nat.le_refl _) _)
  · have HWQ : Hid (toL q0 = rword (D.map toL)) := Lib.hid (by
      have h2 := Hq0.out
      rcases D with _ | ⟨a, _ | ⟨b, r⟩⟩
      · simp at h2
      · simp at h2; simp [rword, h2]
      · simp at h2
        simp at h1
        omega)
    obtain ⟨D2, hD2⟩ : ∃ D2, D2 = D.drop 1 := ⟨_, rfl⟩
    have hlD : D.length - 1 = D2.length := by rw [hD2, List.length_drop]
    have HS3 : Hid (Sl x1 A1 (c - 1) D2.length 1 (txs D2)) := Lib.hid (by
      have := HS2.out
      rw [hlD] at this
      have e : txs D2 = (txs D).drop 1 := by rw [hD2, txs, txs, List.map_drop]
      rw [e]
      exact this)
    rw [hlD] at hsl1
    have HD2 : Hid (D2.map toL = rrest (D.map toL)) := Lib.hid (by
      have h2 := Hq0.out
      rcases D with _ | ⟨a, _ | ⟨b, r⟩⟩
      · simp at h2
      · simp [hD2, rrest]
      · simp at h2
        simp at h1
        omega)
    have HD2e := Lib.hid hD2
    clear HS2 hlD hD2
    go_wp2_with fail
    clear hr
    obtain ⟨W, hW⟩ : ∃ W, W = q0 := ⟨_, rfl⟩
    have HW : Hid (toL W = rword (D.map toL)) := Lib.hid (by rw [hW]; exact HWQ.out)
    clear HWQ
    obtain ⟨A2, hA2⟩ : ∃ A2, A2 = A1 := ⟨_, rfl⟩
    obtain ⟨c2, hc2⟩ : ∃ c2, c2 = c - 1 := ⟨_, rfl⟩
    rw [← hA2, ← hc2] at HS3
    rw [← hA2, ← hc2, ← hW]
    clear hA2 hc2 hsl1 hW
    have HDz2 : Hid (∀ p ∈ D2, p.size ≤ 1048576) := Lib.hid (fun p hp => HDz.out p (by rw [HD2e.out] at hp; exact List.mem_of_mem_drop hp))
    refine (rforms_own _).mono ?_
    rintro e x2 ⟨gF, rfl, hf2, hB2, hgF⟩
    have hx1z := hB2.size
    have HB2 := Lib.hid (HB1.out.trans (hB2.mono HB1.out.size))
    have Hr2 := Lib.hid ((hB2.block w.heap.size hz1).trans Hr1.out)
    have HS4 := Lib.hid (HS3.out.keep (Cells.of_below hB2))
    have Hf2 := Lib.hid hf2
    have Hc0 := Lib.hid ((hB2.cell (World.block_lt_of_cell? x1 _ hc0)).trans hc0)
    clear hf2 hB2 HS3 Hr1 HB1
    go_wp2_with fail
    go_loopw [9] (fun iv wr => RFRel D x2 iv wr) (fun iv _ => 15 - (intOf iv).toNat)
    case atStart => exact ⟨0, by omega, rfl, by simp, Below.refl _ _⟩
    case round =>
      obtain ⟨i, hi, rfl, hno, hB⟩ := hrel
      have Hno := Lib.hid hno
      have HB := Lib.hid hB
      have hgx := hB.size
      clear hno hB
      by_cases hi15 : i < 15
      · have hiI : (i : Int) < 15 := by omega
        have hir : (0 : Int) ≤ i := by omega
        have hlt : i < RFORMS.length := hi15
        have hfi : RFORMS[i]? = some RFORMS[i] := List.getElem?_eq_getElem hlt
        generalize hfg : RFORMS[i] = F at *
        have Hfi := Lib.hid hfi
        have HF : Hid (F ∈ RFORMS) := Lib.hid (List.mem_of_getElem? hfi)
        clear hfg hfi hlt
        have hrow : ∀ j v, (rfV F)[j]? = some v → wr.cell? ⟨gF, i * 4 + j, none⟩ = some v := fun j v hv => by
          have h2 := rfsV_at _ _ _ Hfi.out j v hv
          have h3 := HB.out.block gF (lt_of_heap Hf2.out)
          have h4 := (blk_cells (h3.trans Hf2.out)).1 (i * 4 + j)
          rw [h4, List.getElem?_toArray]
          exact h2
        have Hrow := Lib.hid hrow
        obtain ⟨WF, hWF⟩ : ∃ x, x = mkS F.word := ⟨_, rfl⟩
        obtain ⟨SF, hSF⟩ : ∃ x, x = mkS F.says := ⟨_, rfl⟩
        have f2 : wr.cell? ⟨gF, i * 4 + 2, none⟩ = some (.string WF) := by rw [hWF]; exact hrow 2 _ rfl
        have f3 : wr.cell? ⟨gF, i * 4 + 3, none⟩ = some (.string SF) := by rw [hSF]; exact hrow 3 _ rfl
        have HWF := Lib.hid hWF
        have HSF := Lib.hid hSF
        have c0 : wr.cell? ⟨bw, ow, none⟩ = some (.string q0) := (HB.out.cell (World.block_lt_of_cell? x2 _ Hc0.out)).trans Hc0.out
        clear hrow hWF hSF
        have Hnx : Hid (∀ x3, Below x2.heap.size x2 x3 → rmatch (D.map toL) F = false → RFRel D x2 (.int .i64 ((i : Int) + 1)) x3) := Lib.hid (fun x3 h3 hm => ⟨i + 1, by omega, by go_num, fun f' hf' => by
          rw [take_snoc Hfi.out, List.mem_append, List.mem_singleton] at hf'
          rcases hf' with hf' | rfl
          · exact Hno.out f' hf'
          · exact hm, h3⟩)
        have hseq := str_eq WF W
        by_cases hw : ¬ F.word = rword (D.map toL)
        · have hne : ¬ WF = W := fun e => hw (by rw [← HW.out, ← e, HWF.out, toL_mkS])
          rw [decide_eq_false hne] at hseq
          have Hm := Lib.hid (Hnx.out wr HB.out (by unfold rmatch; rw [decide_eq_false hw]; rfl))
          clear hw hne
          go_wp2_with fail
          exact ⟨Hm.out, by simp [intOf]; omega⟩
        have hw := Decidable.not_not.1 hw
        have heq : WF = W := by
          apply toL_inj
          rw [HW.out, ← hw, HWF.out, toL_mkS]
        rw [decide_eq_true heq] at hseq
        have Hw := Lib.hid hw
        clear hw heq
        go_wp2_with fail
        refine (cut_ref _ q0 32 hq0z).mono ?_
        rintro e x3 ⟨Dc, v, rfl, hownc, hB3, hDc⟩
        obtain ⟨Ac, cc, rfl, _, _, _, _⟩ := own_form hownc
        have hB3' := HB.out.trans (hB3.mono hgx)
        have hlc : Dc.length = (cutL 32 (toL q0)).length := by rw [← hDc, List.length_map]
        have HB3 := Lib.hid hB3'
        have hx3 := hB3'.size
        clear hownc hB3 hDc hB3'
        by_cases h32 : (32 : UInt8) ∈ toL q0
        · have hgt : (1 : Int) < Dc.length := by
            have h1 := cutL_ne 32 (toL q0)
            have h2 : (cutL 32 (toL q0)).length ≠ 0 := fun e => h1 (List.eq_nil_of_length_eq_zero e)
            have h3 : (cutL 32 (toL q0)).length ≠ 1 := fun e => cutL_one.1 e h32
            omega
          have Hm := Lib.hid (Hnx.out x3 HB3.out (by unfold rmatch; rw [Hhd.out, decide_eq_false (p := (32 : UInt8) ∉ toL q0) (fun h => h h32), Bool.and_false]))
          clear h32 hlc
          go_wp2_with fail
          exact ⟨Hm.out, by simp [intOf]; omega⟩
        have hgt : ¬ (1 : Int) < Dc.length := by
          have h3 := cutL_one.2 h32
          omega
        have HR : Hid (rparse (toL s) = rform F (D2.map toL)) := Lib.hid (by
          rw [Hp0.out, ← HD.out, HD2.out]
          exact rfind_at Hfi.out Hno.out (by unfold rmatch; rw [Hhd.out, decide_eq_true Hw.out, decide_eq_true (p := (32 : UInt8) ∉ toL q0) h32]; rfl))
        clear h32 hlc Hnx
        have f2' : x3.cell? ⟨gF, i * 4 + 2, none⟩ = some (.string WF) := by
          have h1 := HB3.out.block gF (lt_of_heap Hf2.out)
          have h2 := HB.out.block gF (lt_of_heap Hf2.out)
          exact (World.cell?_of_block (h1.trans h2.symm)).trans f2
        have hcell : ∀ j v, (rfV F)[j]? = some v → x3.cell? ⟨gF, i * 4 + j, none⟩ = some v := fun j v hv => by
          have h1 := HB3.out.block gF (lt_of_heap Hf2.out)
          have h2 := HB.out.block gF (lt_of_heap Hf2.out)
          exact (World.cell?_of_block (h1.trans h2.symm)).trans (Hrow.out j v hv)
        have g3 : x3.cell? ⟨gF, i * 4 + 3, none⟩ = some (.string SF) := by rw [HSF.out]; exact hcell 3 _ rfl
        have hg0 : x3.cell? ⟨gF, i * 4, none⟩ = some (.int .i64 (F.kind : Nat)) := by have := hcell 0 _ rfl; rwa [Nat.add_zero] at this
        have hg1 : x3.cell? ⟨gF, i * 4 + 1, none⟩ = some (.int .i64 (F.sub : Nat)) := hcell 1 _ rfl
        have HR3 := Lib.hid ((HB3.out.block w.heap.size (lt_of_heap Hr2.out)).trans Hr2.out)
        have HS5 := Lib.hid (HS4.out.keep (Cells.of_below HB3.out))
        have HBW := Lib.hid (HB2.out.trans (HB3.out.mono HB2.out.size))
        have HF5 := Lib.hid (rforms_five HF.out)
        clear f2 f3 f2' c0 hcell hc0 HB Hrow
        by_cases hln : ¬ D2.length = F.says.length
        · have hlb : ((D2.length : Int) != (SF.size : Int)) = true := by rw [bne_iff_ne, HSF.out, mkS_size]; omega
          have Hp : Hid (rparse (toL s) = (zR, 14)) := Lib.hid (by rw [HR.out]; exact rform_len (by rw [List.length_map]; exact hln))
          clear hln
          go_wp2_with ((with_reducible refine at_store 49 ?_); refine wpList_store_row rfl 49 _ _ rfl w.heap.size (rV 0 0 nilV nilV) rfl rfl 49 (rV 0 0 nilV nilV) HR3.out sizeR rfl (rV_one rfl rfl) ?_)
          refine bodyPost_ret (res_cell2 rfl _ _ w.heap.size 49 (rV 0 0 nilV nilV) (0, 0) rfl (setRow_heap _ _ _ _ _ _ HR3.out) Tryd.underlying49 rfl sizeR) rfl ?_
          exact rp_zero Hp.out (below_row HBW.out (Nat.le_refl _) _)
        have hle := Decidable.not_not.1 hln
        have hlb : ((D2.length : Int) != (SF.size : Int)) = false := by rw [bne_eq_false_iff_eq, HSF.out, mkS_size]; omega
        have Hle := Lib.hid hle
        clear hln hle
        go_wp2_with fail
        have hg0d : x3.drew.cell? ⟨gF, i * 4, none⟩ = some (.int .i64 (F.kind : Nat)) := hg0
        have hg1d : x3.drew.cell? ⟨gF, i * 4 + 1, none⟩ = some (.int .i64 (F.sub : Nat)) := hg1
        with_reducible refine g_mixx [(0, 1), (1, 1), (2, 1), (3, 1), (4, 0), (5, 1), (6, 1), (7, 1), (8, 1), (9, 0), (10, 1), (11, 2), (12, 3)] (fun w' => w'.cell? ⟨gF, i * 4, none⟩ = some (.int .i64 (F.kind : Nat)) ∧ w'.cell? ⟨gF, i * 4 + 1, none⟩ = some (.int .i64 (F.sub : Nat))) 0 _ rfl (by kernel_rfl) (by kernel_rfl) ?_ ?_
        · exact ⟨hg0d, hg1d⟩
        intro OPS HD
        simp only [mixX, nthO, consX]
        iterate 4 ((with_reducible refine x_any (v := ?_) ?_ ?_); rotate_left; (rintro _; go_simp; first | done | rfl | (constructor <;> rfl)))
        iterate 1 ((with_reducible refine x_val (v := ?_) ?_ ?_ ?_); rotate_left; (rintro _ ⟨h1, h2⟩; go_simp; first | done | rfl | (constructor <;> rfl)); exact ⟨hg0d, hg1d⟩)
        iterate 4 ((with_reducible refine x_any (v := ?_) ?_ ?_); rotate_left; (rintro _; go_simp; first | done | rfl | (constructor <;> rfl)))
        iterate 1 ((with_reducible refine x_val (v := ?_) ?_ ?_ ?_); rotate_left; (rintro _ ⟨h1, h2⟩; go_simp; first | done | rfl | (constructor <;> rfl)); exact ⟨hg0d, hg1d⟩)
        iterate 1 ((with_reducible refine x_any (v := ?_) ?_ ?_); rotate_left; (rintro _; go_simp; first | done | rfl | (constructor <;> rfl)))
        with_reducible refine x_one ?_
        iterate 1 (with_reducible refine l_val (v := ?_) (w' := ?_) ?_ ?_; rotate_left 2; (go_simp; first | done | rfl | (constructor <;> rfl)))
        refine x_keep ⟨Cells.alloc _ _ _ _ hg0d, Cells.alloc _ _ _ _ hg1d⟩ ?_
        with_reducible refine x_three ?_
        refine wpList_store_row rfl 49 _ _ rfl x3.heap.size (rV (F.kind : Nat) (F.sub : Nat) nilV nilV) (by simp [Act.eval, Act.put]) (by simp [Act.eval, Act.put, rV, rL, nilV]) 49 (rV 0 0 nilV nilV) (heap_alloc_new x3 _) sizeR rfl (rV_one rfl rfl) ?_
        with_reducible refine x_last ?_
        with_reducible refine x_end ?_
        simp only [Act.put, List.setIfInBounds_toArray, List.set_cons_zero, List.set_cons_succ]
        obtain ⟨x4, hx4⟩ : ∃ x4, x4 = (World.drew (x3.alloc (.cells #[.int .i64 0, .int .i64 0, .slice none 0 0, .slice none 0 0] 49))).setRow x3.heap.size (rV (F.kind : Nat) (F.sub : Nat) nilV nilV) := ⟨_, rfl⟩
        rw [← hx4]
        obtain ⟨ba, hba⟩ : ∃ ba, ba = x3.heap.size := ⟨_, rfl⟩
        have hb4 : x4.heap[ba]? = some (.cells (rV (F.kind : Nat) (F.sub : Nat) nilV nilV) 49 (0, 0)) := by
          have hh : (World.drew (x3.alloc (.cells #[.int .i64 0, .int .i64 0, .slice none 0 0, .slice none 0 0] 49))).heap[x3.heap.size]? = some (.cells (rV 0 0 nilV nilV) 49 (0, 0)) := heap_alloc_new x3 _
          rw [hx4, hba]
          exact setRow_heap _ _ _ _ _ _ hh
        have hB34 : Below x3.heap.size x3 x4 := by
          rw [hx4]
          exact below_row (below_drewN ((Below.refl x3.heap.size x3).alloc (Nat.le_refl _) _) 1) (Nat.le_refl _) _
        rw [← hba]
        have hx34 := hB34.size
        have hbl4 := lt_of_heap hb4
        have h4 : x4.cell? ⟨gF, i * 4 + 3, none⟩ = some (.string SF) := (hB34.cell (World.block_lt_of_cell? x3 _ g3)).trans g3
        have hgFl : gF < ba := by rw [hba]; exact World.block_lt_of_cell? x3 _ g3
        have HB4 := Lib.hid (HBW.out.trans (hB34.mono HBW.out.size))
        have HR4 := Lib.hid ((hB34.block w.heap.size (lt_of_heap HR3.out)).trans HR3.out)
        have hrl4 : w.heap.size < ba := by rw [hba]; exact lt_of_heap HR3.out
        have HS6 := Lib.hid (HS5.out.keep (Cells.of_below hB34))
        have Hwlt : Hid (∀ k x, D2[k]? = some x → ∃ b o, A2 = some ⟨b, o, none⟩ ∧ b < ba ∧ x4.cell? ⟨b, o + k, none⟩ = some (.string x)) := Lib.hid (fun k x hk => by
          have hkl := (List.getElem?_eq_some_iff.1 hk).1
          obtain ⟨b, o, y, h1, h2, h3⟩ := str_at (w := x3) (x := D2) HS5.out hkl
          obtain ⟨b', o', y', h1', h2', h3'⟩ := str_at (w := x4) (x := D2) HS6.out hkl
          rw [h1] at h1'
          cases h1'
          rw [hk] at h2'
          cases h2'
          exact ⟨b, o, h1, by rw [hba]; exact World.block_lt_of_cell? x3 _ h3, h3'⟩)
        have Hb4 := Lib.hid hb4
        have Hh4 := Lib.hid h4
        have hD5 : D2.length ≤ 5 := by rw [Hle.out]; exact HF5.out
        clear hx4 hb4 hB34 hg0d hg1d hg0 hg1 g3 hx34 h4 HD hba
        go_wp2_with fail
        go_loopw [11] (fun kv wy => NRel x4 ba F D2 kv wy) (fun kv _ => D2.length - (intOf kv).toNat)
        case atStart => exact ⟨0, [], nilV, by omega, rfl, NumAt.zero _ _, by simp, Fr.refl _ _, Hb4.out, World.ownsRow_nil _ _ _ _⟩
        case round =>
          obtain ⟨k, acc, vn, hk, rfl, hat, hac, hfr, hb, hown⟩ := hrel
          have Hat := Lib.hid hat
          have Hfr := Lib.hid hfr
          have Hb := Lib.hid hb
          have Hown := Lib.hid hown
          have hxz := hfr.size
          have hsf : wr.cell? ⟨gF, i * 4 + 3, none⟩ = some (.string SF) := (World.cell?_of_block (hfr.block gF (by omega) (by simp; omega))).trans Hh4.out
          clear hat hfr hb hown
          by_cases hlt : k < D2.length
          · have hkI : (k : Int) < D2.length := by omega
            have hkr : (0 : Int) ≤ k := by omega
            have hks : k < F.says.length := by rw [← Hle.out]; exact hlt
            have hkS : k < SF.size := by rw [HSF.out, mkS_size]; exact hks
            obtain ⟨ch, hch⟩ : ∃ ch, ch = F.says.getD k 0 := ⟨_, rfl⟩
            have hcb : SF[k] = ch := (str_byte hkS).trans (by rw [hch, HSF.out, toL_mkS])
            obtain ⟨xk, hxk⟩ : ∃ x, D2[k]? = some x := ⟨_, List.getElem?_eq_getElem hlt⟩
            obtain ⟨b2, o2, rfl, hb2, hc2⟩ := Hwlt.out k xk hxk
            have hcx : wr.cell? ⟨b2, o2 + k, none⟩ = some (.string xk) := (World.cell?_of_block (Hfr.out.block b2 (by omega) (by simp; omega))).trans hc2
            have hxs : xk.size ≤ 1048576 := HDz2.out xk (List.mem_of_getElem? hxk)
            have Hch := Lib.hid (getD_at hks hch)
            have Hxk := Lib.hid (map_at hxk)
            have hkSI : (k : Int) < SF.size := by omega
            clear hch hxk hc2
            by_cases hc : ¬ ch = 110
            · have hcI : ((ch.toNat : Int) == 110) = false := by
                rw [beq_eq_false_iff_ne]
                intro h
                have h2 : (110 : UInt8).toNat = 110 := rfl
                exact hc (UInt8.toNat_inj.1 (by omega))
              have Hm : Hid (NRel x4 ba F D2 (.int .i64 ((k : Int) + 1)) wr) := Lib.hid ⟨k + 1, acc, vn, by omega, by go_num, Hat.out.skip Hch.out Hxk.out hc, by omega, Hfr.out, Hb.out, Hown.out⟩
              clear hc
              go_wp2_with fail
              exact ⟨Hm.out, by simp [intOf]; omega⟩
            have hc := Decidable.not_not.1 hc
            have hcI : ((ch.toNat : Int) == 110) = true := by rw [hc]; rfl
            have Hc := Lib.hid hc
            clear hc
            go_wp2_with fail
            refine (number_ref xk hxs wr).mono ?_
            rintro e w1 ⟨rfl, n, ok, rfl, hn⟩
            cases ok with
            | false =>
              rw [if_neg (by decide)] at hn
              have Hp : Hid (rparse (toL s) = (zR, 6)) := Lib.hid (by rw [HR.out]; exact rform_num (by rw [List.length_map]; exact Hle.out) (Hat.out.fail Hch.out Hxk.out Hc.out hn))
              have HRR := Lib.hid ((Hfr.out.block w.heap.size (by omega) (by simp; omega)).trans HR4.out)
              have HBx := Lib.hid (HB4.out.trans (Hfr.out.below (B := w.heap.size) HB4.out.size (by intro q hq; simp at hq; omega)))
              clear hn
              go_wp2_with ((with_reducible refine at_store 49 ?_); refine wpList_store_row rfl 49 _ _ rfl w.heap.size (rV 0 0 nilV nilV) rfl rfl 49 (rV 0 0 nilV nilV) HRR.out sizeR rfl (rV_one rfl rfl) ?_)
              refine bodyPost_ret (res_cell2 rfl _ _ w.heap.size 49 (rV 0 0 nilV nilV) (0, 0) rfl (setRow_heap _ _ _ _ _ _ HRR.out) Tryd.underlying49 rfl sizeR) rfl ?_
              exact rp_zero Hp.out (below_row HBx.out (Nat.le_refl _) _)
            | true =>
              rw [if_pos rfl] at hn
              have Hn := Lib.hid hn
              obtain ⟨Av, cv, rfl, _, _, _, _⟩ := own_form Hown.out
              have hc3 : wr.cell? ⟨ba, 3, none⟩ = some (.slice Av acc.length cv) := (blk_cells Hb.out).1 3
              have hac5 : acc.length ≤ 5 := by omega
              obtain ⟨iI, hiI2, hzI, hsI, hbI⟩ := info_parts infoInt
              clear hn
              go_wp2_with (first | (at_builtin; refine wpList_append_own _ rfl _ _ 47 rfl x4.heap.size 3 iI (.int .i64 0) 1 8 Tryd.underlying47 hiI2 hzI hsI hbI rfl (by omega) (.slice Av acc.length cv) acc.length (intsV acc) rfl (Hown.out.alloc _) ⟨wr.heap.size, 0, none⟩ 1 1 [.int .i64 n] rfl rfl (fun j v hv => World.news_of_block (w := wr.alloc _) (heap_alloc_new wr _) j v hv) (ints_one [n]) (by unfold maxLen; omega) (by omega) (by simp; omega) ?_))
              intro v1 wp hown1 hgrow1 _
              have hnb : ∀ q, (Value.slice Av acc.length cv).ownBlock = some q → x4.heap.size ≤ q := fun q hq => (own_blk Hown.out q hq).1
              have hgg : ∀ q, q < wr.heap.size → q < x4.heap.size → wp.heap[q]? = wr.heap[q]? := fun q hq hq0 => (hgrow1.block q (by simp; omega) (fun e => by have := hnb q e.symm; omega)).trans (Below.heap_alloc _ _ _ hq)
              have hb5 := (hgg ba (lt_of_heap Hb.out) hbl4).trans Hb.out
              have hfr5 : Fr [ba] x4 wp := ⟨hgrow1.os.trans Hfr.out.os, hgrow1.tape.trans Hfr.out.tape, hgrow1.output.trans Hfr.out.output, by have := hgrow1.size; simp at this; omega, fun q hq hn => (hgg q (by omega) hq).trans (Hfr.out.block q hq hn)⟩
              have hc5 : wp.cell? ⟨ba, 3, none⟩ = some (.slice Av acc.length cv) := (blk_cells hb5).1 3
              have hz5 := (blk_cells hb5).2.1 3
              obtain ⟨Av1, cv1, rfl, _, _, _, _⟩ := own_form hown1
              have hm : NRel x4 ba F D2 (.int .i64 ((k : Int) + 1)) (wp.setCell ⟨ba, 3, none⟩ (.slice Av1 (acc.length + 1) cv1)) := by
                refine ⟨k + 1, acc ++ [n], .slice Av1 (acc.length + 1) cv1, by omega, by go_num, Hat.out.take Hch.out Hxk.out Hc.out Hn.out, by simp; omega, hfr5.trans (Fr.setCell [ba] wp ⟨ba, 3, none⟩ _ (by simp)), ?_, ?_⟩
                · rw [heap_setCell_at hb5]
                  rfl
                · have e1 : (acc ++ [n]).length = acc.length + 1 := by simp
                  have e2 : intsV (acc ++ [n]) = intsV acc ++ [.int .i64 n] := by simp [intsV]
                  rw [e1, e2]
                  exact own_keep hown1 fun q cs hq => by
                    rw [(Fr.setCell [ba] wp ⟨ba, 3, none⟩ _ (by simp)).block q (lt_of_heap hq) (by
                      rintro hqb
                      simp only [List.mem_singleton] at hqb
                      subst hqb
                      rw [hb5] at hq
                      cases hq)]
                    exact hq
              have Hm := Lib.hid hm
              clear hm hown1 hgrow1 hnb hgg hb5 hfr5 hc3
              go_wp2_with fail
              exact ⟨Hm.out, by simp [intOf]; omega⟩
          · have hkI : ¬ (k : Int) < D2.length := by omega
            have hkd : k = D2.length := by omega
            have HN : Hid (numsR F.says (D2.map toL) = some acc) := Lib.hid (Hat.out.end_ (by rw [← Hle.out]; omega))
            have HBx := Lib.hid (HB4.out.trans (Hfr.out.below (B := w.heap.size) HB4.out.size (by intro q hq; simp at hq; omega)))
            have HR5 := Lib.hid ((Hfr.out.block w.heap.size (by omega) (by simp; omega)).trans HR4.out)
            have Hw5 : Hid (∀ k x, D2[k]? = some x → ∃ b o, A2 = some ⟨b, o, none⟩ ∧ b < ba ∧ wr.cell? ⟨b, o + k, none⟩ = some (.string x)) := Lib.hid (fun k x hk => by
              obtain ⟨b, o, h1, h2, h3⟩ := Hwlt.out k x hk
              exact ⟨b, o, h1, h2, (World.cell?_of_block (Hfr.out.block b (by omega) (by simp; omega))).trans h3⟩)
            have hac5 : acc.length ≤ 5 := by omega
            have Hh5 := Lib.hid hsf
            have hb5l := lt_of_heap Hb.out
            obtain ⟨An, cn, rfl, _, _, _, _⟩ := own_form Hown.out
            have Hb5 := Lib.hid Hb.out
            clear hlt Hat Hfr HB4 HR4 Hwlt Hh4 Hb4 hsf hkd
            go_wp2_with fail
            generalize wr = x5 at *
            go_loopw [14] (fun kv wy => TRel x5 ba F D2 (.slice An acc.length cn) kv wy) (fun kv _ => D2.length - (intOf kv).toNat)
            case atStart => exact ⟨0, [], nilV, _, by omega, rfl, TextAt.zero _ _, SubAt.zero _ _, by simp, Fr.refl _ _, Hb.out, World.ownsRow_nil _ _ _ _⟩
            case round =>
              clear hk hac
              obtain ⟨k, L, vt, sb, hk, rfl, hat, hsa, hac, hfr, hb, hown⟩ := hrel
              have Hat := Lib.hid hat
              have Hsa := Lib.hid hsa
              have Hfr := Lib.hid hfr
              have Hb := Lib.hid hb
              have Hot := Lib.hid hown
              have hxz2 := hfr.size
              have hsf : wr.cell? ⟨gF, i * 4 + 3, none⟩ = some (.string SF) := (World.cell?_of_block (hfr.block gF (by omega) (by simp; omega))).trans Hh5.out
              clear hat hsa hfr hb hown
              by_cases hlt : k < D2.length
              · have hkI : (k : Int) < D2.length := by omega
                have hkr : (0 : Int) ≤ k := by omega
                have hks : k < F.says.length := by rw [← Hle.out]; exact hlt
                have hkS : k < SF.size := by rw [HSF.out, mkS_size]; exact hks
                obtain ⟨ch, hch⟩ : ∃ ch, ch = F.says.getD k 0 := ⟨_, rfl⟩
                have hcb : SF[k] = ch := (str_byte hkS).trans (by rw [hch, HSF.out, toL_mkS])
                obtain ⟨xk, hxk⟩ : ∃ x, D2[k]? = some x := ⟨_, List.getElem?_eq_getElem hlt⟩
                obtain ⟨b2, o2, rfl, hb2, hc2⟩ := Hw5.out k xk hxk
                have hcx : wr.cell? ⟨b2, o2 + k, none⟩ = some (.string xk) := (World.cell?_of_block (Hfr.out.block b2 (by omega) (by simp; omega))).trans hc2
                have Hch := Lib.hid (getD_at hks hch)
                have Hxk := Lib.hid (map_at hxk)
                have hkSI : (k : Int) < SF.size := by omega
                clear hch hxk hc2
                by_cases hc : ch = 116
                · have hcI : ((ch.toNat : Int) == 116) = true := by rw [hc]; rfl
                  have Hc := Lib.hid hc
                  have hL5 : L.length ≤ 5 := by omega
                  obtain ⟨Av, cv, rfl, _, _, _, _⟩ := own_form Hot.out
                  have hc2 : wr.cell? ⟨ba, 2, none⟩ = some (.slice Av L.length cv) := (blk_cells Hb.out).1 2
                  have hc2d : wr.drew.cell? ⟨ba, 2, none⟩ = some (.slice Av L.length cv) := hc2
                  have hcxd : wr.drew.cell? ⟨b2, o2 + k, none⟩ = some (.string xk) := hcx
                  obtain ⟨iS, hiS, hzS, hsS, hbS⟩ := info_parts infoStr1
                  have Hod : Hid (wr.drew.ownsRow x5.heap.size 9 1 (.slice Av L.length cv) L.length (txs L)) := Lib.hid (own_keep Hot.out fun q cs hq => hq)
                  clear hc
                  go_wp2_with fail
                  with_reducible refine g_mixx [(0, 1), (1, 0), (2, 1), (3, 1), (4, 1), (5, 0), (6, 2), (7, 3), (8, 1), (9, 3)] (fun w' => w'.cell? ⟨ba, 2, none⟩ = some (.slice Av L.length cv) ∧ w'.cell? ⟨b2, o2 + k, none⟩ = some (.string xk)) 0 _ rfl (by kernel_rfl) (by kernel_rfl) ?_ ?_
                  · exact ⟨hc2d, hcxd⟩
                  intro OPS HD
                  simp only [mixX, nthO, consX]
                  iterate 1 ((with_reducible refine x_any (v := ?_) ?_ ?_); rotate_left; (rintro _; go_simp; first | done | rfl | (constructor <;> rfl)))
                  iterate 1 ((with_reducible refine x_val (v := ?_) ?_ ?_ ?_); rotate_left; (rintro _ ⟨h1, h2⟩; go_simp; first | done | rfl | (constructor <;> rfl)); exact ⟨hc2d, hcxd⟩)
                  iterate 3 ((with_reducible refine x_any (v := ?_) ?_ ?_); rotate_left; (rintro _; go_simp; first | done | rfl | (constructor <;> rfl)))
                  iterate 1 ((with_reducible refine x_val (v := ?_) ?_ ?_ ?_); rotate_left; (rintro _ ⟨h1, h2⟩; go_simp; first | done | rfl | (constructor <;> rfl)); exact ⟨hc2d, hcxd⟩)
                  with_reducible refine x_one ?_
                  iterate 1 (with_reducible refine l_val (v := ?_) (w' := ?_) ?_ ?_; rotate_left 2; (go_simp; first | done | rfl | (constructor <;> rfl)))
                  refine x_keep ⟨Cells.alloc _ _ _ _ hc2d, Cells.alloc _ _ _ _ hcxd⟩ ?_
                  with_reducible refine x_three ?_
                  refine wpList_append_own _ rfl (.tmp 138) (.tmp 143) 39 rfl x5.heap.size 9 iS (.string ByteArray.empty) 1 16 Tryd.underlying39 hiS hzS hsS hbS rfl (by omega) (.slice Av L.length cv) L.length (txs L) ?_ (Hod.out.alloc _) ⟨wr.drew.heap.size, 0, none⟩ 1 1 [.string xk] ?_ rfl (fun j v hv => World.news_of_block (w := wr.drew.alloc _) (heap_alloc_new wr.drew _) j v hv) (txs_one [xk]) (by unfold maxLen; omega) (by omega) (by simp; omega) ?_
                  · simp [Act.eval, Act.put]
                  · simp [Act.eval, Act.put]
                  intro v1 wp hown1 hgrow1 _
                  have hx5d : x5.heap.size ≤ wr.drew.heap.size := hxz2
                  have hnb : ∀ q, (Value.slice Av L.length cv).ownBlock = some q → x5.heap.size ≤ q := fun q hq => (own_blk Hod.out q hq).1
                  have hgg : ∀ q, q < wr.heap.size → q < x5.heap.size → wp.heap[q]? = wr.heap[q]? := fun q hq hq0 => (hgrow1.block q (by simp; omega) (fun e => by have := hnb q e.symm; omega)).trans (Below.heap_alloc wr.drew _ _ hq)
                  have hb6 := (hgg ba (lt_of_heap Hb.out) hb5l).trans Hb.out
                  have hfr6 : Fr [ba] x5 wp := ⟨hgrow1.os.trans Hfr.out.os, hgrow1.tape.trans Hfr.out.tape, hgrow1.output.trans Hfr.out.output, by have := hgrow1.size; simp at this; omega, fun q hq hn => (hgg q (by omega) hq).trans (Hfr.out.block q hq hn)⟩
                  have hc6 : wp.cell? ⟨ba, 2, none⟩ = some (.slice Av L.length cv) := (blk_cells hb6).1 2
                  have hz6 := (blk_cells hb6).2.1 2
                  obtain ⟨Av1, cv1, rfl, _, _, _, _⟩ := own_form hown1
                  have hm : TRel x5 ba F D2 (.slice An acc.length cn) (.int .i64 ((k : Int) + 1)) (wp.setCell ⟨ba, 2, none⟩ (.slice Av1 (L.length + 1) cv1)) := by
                    refine ⟨k + 1, L ++ [xk], .slice Av1 (L.length + 1) cv1, sb, by omega, by go_num, by rw [List.map_append]; exact Hat.out.take Hch.out Hxk.out Hc.out, Hsa.out.skip HF.out Hch.out (by rw [Hc.out]; decide), by simp; omega, hfr6.trans (Fr.setCell [ba] wp ⟨ba, 2, none⟩ _ (by simp)), ?_, ?_⟩
                    · rw [heap_setCell_at hb6]
                      rfl
                    · have e1 : (L ++ [xk]).length = L.length + 1 := by simp
                      rw [e1]
                      have h7 := txs_push hown1
                      rw [e1] at h7
                      exact own_keep h7 fun q cs hq => by
                        rw [(Fr.setCell [ba] wp ⟨ba, 2, none⟩ _ (by simp)).block q (lt_of_heap hq) (by
                          rintro hqb
                          simp only [List.mem_singleton] at hqb
                          subst hqb
                          rw [hb6] at hq
                          cases hq)]
                        exact hq
                  have Hm := Lib.hid hm
                  clear hm hown1 hgrow1 hnb hgg hb6 hfr6 hc2 hc2d hcxd
                  with_reducible refine x_last ?_
                  iterate 1 ((with_reducible refine x_any (v := ?_) ?_ ?_); rotate_left; (rintro _; go_simp; first | done | rfl | (constructor <;> rfl)))
                  with_reducible refine x_three ?_
                  with_reducible refine l_skip (w' := wp.setCell ⟨ba, 2, none⟩ (.slice Av1 (L.length + 1) cv1)) ?_ ?_
                  · go_simp
                  with_reducible refine x_last ?_
                  with_reducible refine x_end ?_
                  simp only [Act.put, List.setIfInBounds_toArray, List.set_cons_zero, List.set_cons_succ]
                  clear hc6 hz6 hcx
                  go_wp2_with fail
                  exact ⟨Hm.out, by simp [intOf]; omega⟩
                have hcI : ((ch.toNat : Int) == 116) = false := by
                  rw [beq_eq_false_iff_ne]
                  intro h
                  have h2 : (116 : UInt8).toNat = 116 := rfl
                  exact hc (UInt8.toNat_inj.1 (by omega))
                have Hc := Lib.hid hc
                clear hc
                by_cases hc : ¬ ch = 107
                · have hcK : ((ch.toNat : Int) == 107) = false := by
                    rw [beq_eq_false_iff_ne]
                    intro h
                    have h2 : (107 : UInt8).toNat = 107 := rfl
                    exact hc (UInt8.toNat_inj.1 (by omega))
                  have Hm : Hid (TRel x5 ba F D2 (.slice An acc.length cn) (.int .i64 ((k : Int) + 1)) wr) := Lib.hid ⟨k + 1, L, vt, sb, by omega, by go_num, Hat.out.skip Hch.out Hxk.out Hc.out, Hsa.out.skip HF.out Hch.out hc, by omega, Hfr.out, Hb.out, Hot.out⟩
                  clear hc
                  go_wp2_with fail
                  exact ⟨Hm.out, by simp [intOf]; omega⟩
                have hc := Decidable.not_not.1 hc
                subst hc
                have hll : (D2.map toL).length = F.says.length := by rw [List.length_map]; exact Hle.out
                obtain rfl : sb = 0 := Hsa.out.start HF.out hll Hch.out Hxk.out
                have Hll := Lib.hid hll
                clear hll hcI
                go_wp2_with fail
                refine (rkinds_any _).mono ?_
                rintro e x6 ⟨rfl, hx6⟩
                obtain ⟨gK, hgK⟩ : ∃ gK, gK = wr.heap.size := ⟨_, rfl⟩
                have hK6 : x6.heap[gK]? = some (.cells (txs KW).toArray 9 (0, 0)) := by rw [hx6, hgK]; exact heap_alloc_new wr _
                have hB6 : Below wr.heap.size wr x6 := by rw [hx6]; exact (Below.refl _ _).alloc (Nat.le_refl _) _
                have hbal := lt_of_heap Hb.out
                have hbK : ba < gK := by omega
                have hK6l := lt_of_heap hK6
                have Hb6 := Lib.hid ((hB6.block ba hbal).trans Hb.out)
                have Hfr6 := Lib.hid (Hfr.out.trans (Fr.of_below hB6 [ba]))
                have Hot6 : Hid (x6.ownsRow x5.heap.size 9 1 vt L.length (txs L)) := Lib.hid (own_keep Hot.out fun q cs hq => (hB6.block q (lt_of_heap hq)).trans hq)
                have hcx6 : x6.cell? ⟨b2, o2 + k, none⟩ = some (.string xk) := (hB6.cell (World.block_lt_of_cell? wr _ hcx)).trans hcx
                have HK6 := Lib.hid hK6
                have Hcx6 := Lib.hid hcx6
                have h56 : x5.heap.size ≤ x6.heap.size := Nat.le_trans hxz2 hB6.size
                have h7l : L.length ≤ 5 := by omega
                rw [← hgK]
                clear hx6 hgK hK6 hB6 hcx6 hcx Hot Hfr Hb hsf hcb hbal hxz2
                go_wp2_with fail
                generalize wr = x7 at *
                go_loopw [16] (fun jv wz => JRel x6 ba F (toL xk) vt (.slice An acc.length cn) jv wz) (fun jv _ => 7 - (intOf jv).toNat)
                case atStart => exact ⟨0, 0, by omega, rfl, KindAt.zero _, Fr.refl _ _, Hb6.out⟩
                case round =>
                  obtain ⟨j, sj, hj, rfl, hkat, hfrj, hbj⟩ := hrel
                  have Hkat := Lib.hid hkat
                  have Hfrj := Lib.hid hfrj
                  have Hbj := Lib.hid hbj
                  clear hkat hfrj hbj
                  have hjz := Hfrj.out.size
                  have hcxj : wr.drew.cell? ⟨b2, o2 + k, none⟩ = some (.string xk) := (World.cell?_of_block (w' := wr.drew) (Hfrj.out.block b2 (by omega) (by simp; omega))).trans Hcx6.out
                  by_cases hjl : j < 7
                  · have hjI : (j : Int) < 7 := by omega
                    have hjr : (0 : Int) ≤ j := by omega
                    obtain ⟨l, hkt⟩ := kt_at ⟨j, hjl⟩
                    have hkt' : KT[j]? = some (((j + 1 : Nat) : Int), l) := hkt
                    have hkw : (txs KW)[j]? = some (.string (mkS l)) := by
                      rw [txs, KW, List.getElem?_map, List.getElem?_map, hkt']
                      rfl
                    obtain ⟨Q, hQ⟩ : ∃ Q, Q = mkS l := ⟨_, rfl⟩
                    have hcq : wr.drew.cell? ⟨gK, j, none⟩ = some (.string Q) := by
                      have h1 := (Hfrj.out.block gK hK6l (by simp; omega)).trans HK6.out
                      have h2 := (blk_cells h1).1 j
                      rw [List.getElem?_toArray, hkw, ← hQ] at h2
                      exact h2
                    have Hkt := Lib.hid hkt'
                    have HQ := Lib.hid hQ
                    clear hkt hkt' hkw hQ
                    have hseq2 := str_eq Q xk
                    by_cases hx : ¬ l = toL xk
                    · have hne : ¬ Q = xk := fun e => hx (by rw [← e, HQ.out, toL_mkS])
                      rw [decide_eq_false hne] at hseq2
                      have Hm : Hid (JRel x6 ba F (toL xk) vt (.slice An acc.length cn) (.int .i64 ((j : Int) + 1)) wr.drew) := Lib.hid ⟨j + 1, sj, by omega, by go_num, Hkat.out.no Hkt.out hx, Hfrj.out.drewN 1, Hbj.out⟩
                      clear hx hne
                      go_wp2_with fail
                      with_reducible refine g_mixx [(0, 1), (1, 1), (2, 1), (3, 0), (4, 1), (5, 1), (6, 1), (7, 0), (8, 1)] (fun w' => w'.cell? ⟨gK, j, none⟩ = some (.string Q) ∧ w'.cell? ⟨b2, o2 + k, none⟩ = some (.string xk)) 0 _ rfl (by kernel_rfl) (by kernel_rfl) ?_ ?_
                      · exact ⟨hcq, hcxj⟩
                      intro OPS HD
                      simp only [mixX, nthO, consX]
                      iterate 3 ((with_reducible refine x_any (v := ?_) ?_ ?_); rotate_left; (rintro _; go_simp; first | done | rfl | (constructor <;> rfl)))
                      iterate 1 ((with_reducible refine x_val (v := ?_) ?_ ?_ ?_); rotate_left; (rintro _ ⟨h1, h2⟩; go_simp; first | done | rfl | (constructor <;> rfl)); exact ⟨hcq, hcxj⟩)
                      iterate 3 ((with_reducible refine x_any (v := ?_) ?_ ?_); rotate_left; (rintro _; go_simp; first | done | rfl | (constructor <;> rfl)))
                      iterate 1 ((with_reducible refine x_val (v := ?_) ?_ ?_ ?_); rotate_left; (rintro _ ⟨h1, h2⟩; go_simp; first | done | rfl | (constructor <;> rfl)); exact ⟨hcq, hcxj⟩)
                      iterate 1 ((with_reducible refine x_any (v := ?_) ?_ ?_); rotate_left; (rintro _; go_simp; first | done | rfl | (constructor <;> rfl)))
                      with_reducible refine x_end ?_
                      simp only [Act.put, List.setIfInBounds_toArray, List.set_cons_zero, List.set_cons_succ]
                      clear HD
                      go_wp2_with fail
                      exact ⟨Hm.out, by simp [intOf]; omega⟩
                    have hx := Decidable.not_not.1 hx
                    have heq : Q = xk := by
                      apply toL_inj
                      rw [HQ.out, toL_mkS, hx]
                    rw [decide_eq_true heq] at hseq2
                    have hbd : wr.drew.heap[ba]? = some (.cells (rV (F.kind : Nat) sj vt (.slice An acc.length cn)) 49 (0, 0)) := Hbj.out
                    have hc1j : wr.drew.cell? ⟨ba, 1, none⟩ = some (.int .i64 sj) := (blk_cells hbd).1 1
                    have hz1j := (blk_cells hbd).2.1 1
                    have hjw : IntKind.i64.wrap ((j : Int) + 1) = (j : Int) + 1 := by rw [IntKind.wrap_i64]; omega
                    have Hm : Hid (JRel x6 ba F (toL xk) vt (.slice An acc.length cn) (.int .i64 ((j : Int) + 1)) (wr.drew.setCell ⟨ba, 1, none⟩ (.int .i64 ((j : Int) + 1)))) := Lib.hid ⟨j + 1, (j : Int) + 1, by omega, by go_num, KindAt.yes (i := (j : Int) + 1) (by rw [Hkt.out]; rfl) hx, (Hfrj.out.drewN 1).trans (Fr.setCell [ba] wr.drew ⟨ba, 1, none⟩ _ (by simp)), by rw [heap_setCell_at hbd]; rfl⟩
                    clear hx heq hbd
                    go_wp2_with fail
                    with_reducible refine g_mixx [(0, 1), (1, 1), (2, 1), (3, 0), (4, 1), (5, 1), (6, 1), (7, 0), (8, 1)] (fun w' => w'.cell? ⟨gK, j, none⟩ = some (.string Q) ∧ w'.cell? ⟨b2, o2 + k, none⟩ = some (.string xk)) 0 _ rfl (by kernel_rfl) (by kernel_rfl) ?_ ?_
                    · exact ⟨hcq, hcxj⟩
                    intro OPS HD
                    simp only [mixX, nthO, consX]
                    iterate 3 ((with_reducible refine x_any (v := ?_) ?_ ?_); rotate_left; (rintro _; go_simp; first | done | rfl | (constructor <;> rfl)))
                    iterate 1 ((with_reducible refine x_val (v := ?_) ?_ ?_ ?_); rotate_left; (rintro _ ⟨h1, h2⟩; go_simp; first | done | rfl | (constructor <;> rfl)); exact ⟨hcq, hcxj⟩)
                    iterate 3 ((with_reducible refine x_any (v := ?_) ?_ ?_); rotate_left; (rintro _; go_simp; first | done | rfl | (constructor <;> rfl)))
                    iterate 1 ((with_reducible refine x_val (v := ?_) ?_ ?_ ?_); rotate_left; (rintro _ ⟨h1, h2⟩; go_simp; first | done | rfl | (constructor <;> rfl)); exact ⟨hcq, hcxj⟩)
                    iterate 1 ((with_reducible refine x_any (v := ?_) ?_ ?_); rotate_left; (rintro _; go_simp; first | done | rfl | (constructor <;> rfl)))
                    with_reducible refine x_end ?_
                    simp only [Act.put, List.setIfInBounds_toArray, List.set_cons_zero, List.set_cons_succ]
                    clear HD hcq hcxj
                    go_wp2_with fail
                    exact ⟨Hm.out, by simp [intOf]; omega⟩
                  · have hjI : ¬ (j : Int) < 7 := by omega
                    have hj7 : j = 7 := by omega
                    subst hj7
                    have hsj := Hkat.out.end_
                    have hc1j : wr.cell? ⟨ba, 1, none⟩ = some (.int .i64 sj) := (blk_cells Hbj.out).1 1
                    have Hsj := Lib.hid hsj
                    clear hsj hjl hj
                    by_cases hs0 : sj = 0
                    · have hs0b : (sj == 0) = true := by rw [hs0]; rfl
                      have Hp : Hid (rparse (toL s) = (zR, 11)) := Lib.hid (by rw [HR.out]; exact rform_bad HF.out Hll.out Hch.out Hxk.out (by rw [← Hsj.out]; exact hs0) HN.out)
                      have hw0 : w.heap.size < x5.heap.size := by omega
                      have HRR := Lib.hid ((Hfrj.out.block w.heap.size (by omega) (by simp; omega)).trans ((Hfr6.out.block w.heap.size hw0 (by simp; omega)).trans HR5.out))
                      have HBy := Lib.hid (HBx.out.trans ((Hfr6.out.trans Hfrj.out).below (B := w.heap.size) HBx.out.size (by intro q hq; simp at hq; omega)))
                      clear hs0
                      go_wp2_with ((with_reducible refine at_store 49 ?_); refine wpList_store_row rfl 49 _ _ rfl w.heap.size (rV 0 0 nilV nilV) rfl rfl 49 (rV 0 0 nilV nilV) HRR.out sizeR rfl (rV_one rfl rfl) ?_)
                      refine bodyPost_ret (res_cell2 rfl _ _ w.heap.size 49 (rV 0 0 nilV nilV) (0, 0) rfl (setRow_heap _ _ _ _ _ _ HRR.out) Tryd.underlying49 rfl sizeR) rfl ?_
                      exact rp_zero Hp.out (below_row HBy.out (Nat.le_refl _) _)
                    · have hs0b : (sj == 0) = false := beq_eq_false_iff_ne.2 hs0
                      have Hm : Hid (TRel x5 ba F D2 (.slice An acc.length cn) (.int .i64 ((k : Int) + 1)) wr) := Lib.hid ⟨k + 1, L, vt, sj, by omega, by go_num, Hat.out.skip Hch.out Hxk.out Hc.out, by rw [Hsj.out]; exact SubAt.take HF.out Hll.out Hch.out Hxk.out (by rw [← Hsj.out]; exact hs0), by omega, Hfr6.out.trans Hfrj.out, Hbj.out, own_keep Hot6.out fun q cs hq => by
                        rw [Hfrj.out.block q (lt_of_heap hq) (by
                          rintro hqb
                          simp only [List.mem_singleton] at hqb
                          subst hqb
                          rw [Hb6.out] at hq
                          cases hq)]
                        exact hq⟩
                      clear hs0
                      go_wp2_with fail
                      exact ⟨Hm.out, by simp [intOf]; omega⟩
              · have hkI : ¬ (k : Int) < D2.length := by omega
                have hkd : k = D2.length := by omega
                have hT : textsR F.says (D2.map toL) = L.map toL := Hat.out.end_ (by rw [← Hle.out]; omega)
                have hS : SubAt F (D2.map toL) F.says.length sb := by
                  have := Hsa.out
                  rwa [hkd, Hle.out] at this
                have Hp : Hid (rparse (toL s) = (⟨(F.kind : Nat), sb, L.map toL, acc⟩, 0)) := Lib.hid (by rw [HR.out]; exact rform_end HF.out (by rw [List.length_map]; exact Hle.out) HN.out hT hS)
                obtain ⟨Av, cv, rfl, _, _, _, _⟩ := own_form Hot.out
                have hw0 : w.heap.size < x5.heap.size := by omega
                have HRR := Lib.hid ((Hfr.out.block w.heap.size hw0 (by simp; omega)).trans HR5.out)
                have HBy := Lib.hid (HBx.out.trans (Hfr.out.below (B := w.heap.size) HBx.out.size (by intro q hq; simp at hq; omega)))
                have Hb7 : Hid (wr.heap[ba]? = some (.cells (rV (F.kind : Nat) sb (.slice Av L.length cv) (.slice An acc.length cn)) 49 (0, 0))) := Lib.hid Hb.out
                clear hlt hkd hT hS
                go_wp2_with (first
                  | ((with_reducible refine at_load 49 ?_); refine wpList_load_row rfl 49 _ rfl ba rfl 49 (rV (F.kind : Nat) sb (.slice Av L.length cv) (.slice An acc.length cn)) (0, 0) _ Hb7.out Tryd.underlying49 rfl sizeR ?_)
                  | ((with_reducible refine at_store 49 ?_); refine wpList_store_row rfl 49 _ _ rfl w.heap.size (rV (F.kind : Nat) sb (.slice Av L.length cv) (.slice An acc.length cn)) rfl rfl 49 (rV 0 0 nilV nilV) HRR.out sizeR rfl (rV_one rfl rfl) ?_))
                refine bodyPost_ret (res_cell2 rfl _ _ w.heap.size 49 (rV (F.kind : Nat) sb (.slice Av L.length cv) (.slice An acc.length cn)) (0, 0) rfl (setRow_heap _ _ _ _ _ _ HRR.out) Tryd.underlying49 rfl sizeR) rfl ?_
                have hk1 : ∀ (t : TypeId) (q : Nat) (cs : Array Value), t ≠ 49 → wr.heap[q]? = some (.cells cs t (0, 0)) → (wr.setRow w.heap.size (rV (F.kind : Nat) sb (.slice Av L.length cv) (.slice An acc.length cn))).heap[q]? = some (.cells cs t (0, 0)) := fun t q cs ht hq => by
                  rw [setRow_other _ _ _ _ (by
                    rintro rfl
                    rw [HRR.out] at hq
                    cases hq
                    exact ht rfl)]
                  exact hq
                have o1 := own_keep Hot.out fun q cs hq => hk1 _ q cs (by decide) hq
                have o2 := own_keep Hown.out fun q cs hq => hk1 _ q cs (by decide) (by
                  rw [Hfr.out.block q (lt_of_heap hq) (by
                    rintro hqb
                    simp only [List.mem_singleton] at hqb
                    subst hqb
                    rw [Hb5.out] at hq
                    cases hq)]
                  exact hq)
                obtain ⟨A5, c5, h5, s5⟩ := row_sl o1
                cases h5
                obtain ⟨A6, c6, h6, s6⟩ := row_sl o2
                cases h6
                exact ⟨_, by rw [Hp.out]; rfl, by rw [Hp.out]; exact ⟨Av, cv, An, cn, L, rfl, rfl, s5, s6⟩, below_row HBy.out (Nat.le_refl _) _⟩
      · have hiI : ¬ (i : Int) < 15 := by omega
        have hi15 : i = 15 := by omega
        subst hi15
        have Hp : Hid (rparse (toL s) = (zR, 7)) := Lib.hid (by
          rw [Hp0.out, ← HD.out]
          exact rfind_none Hno.out)
        have HRR := Lib.hid ((HB.out.block w.heap.size (lt_of_heap Hr2.out)).trans Hr2.out)
        have HBx := Lib.hid (HB2.out.trans (HB.out.mono HB2.out.size))
        go_wp2_with ((with_reducible refine at_store 49 ?_); refine wpList_store_row rfl 49 _ _ rfl w.heap.size (rV 0 0 nilV nilV) rfl rfl 49 (rV 0 0 nilV nilV) HRR.out sizeR rfl (rV_one rfl rfl) ?_)
        refine bodyPost_ret (res_cell2 rfl _ _ w.heap.size 49 (rV 0 0 nilV nilV) (0, 0) rfl (setRow_heap _ _ _ _ _ _ HRR.out) Tryd.underlying49 rfl sizeR) rfl ?_
        exact rp_zero Hp.out (below_row HBx.out (Nat.le_refl _) _)
  · obtain ⟨bw1, ow1, q1, hA', hq1, hc1⟩ := str_at (w := x1) (x := D) HS1.out (i := 1) (by omega)
    cases hA'
    have h2I : (2 : Int) ≤ D.length := by omega
    have hsl2 : ∀ w : World, (Instr.slice 39 (.slice (some ⟨bw, ow, none⟩) D.length c) (some (.int .i64 2)) none none).run Tryd.prog w = .ok (.slice (cutA (some ⟨bw, ow, none⟩) c 2) (D.length - 2) (c - 2)) w := fun w => slice_loS (some ⟨bw, ow, none⟩) D.length c 2 (by omega) w
    obtain ⟨A2, hA2⟩ : ∃ A2, A2 = cutA (some ⟨bw, ow, none⟩) c 2 := ⟨_, rfl⟩
    have HSd := Lib.hid (HS1.out.dropS (l := 2) (by omega))
    rw [← hA2] at hsl2 HSd
    obtain ⟨c2, hc2⟩ : ∃ c2, c2 = c - 2 := ⟨_, rfl⟩
    rw [← hc2] at hsl2 HSd
    have hDD : ∃ r, D = q0 :: q1 :: r := by
      have h2 := Hq0.out
      rcases D with _ | ⟨a, _ | ⟨b, r⟩⟩
      · simp at h2
      · simp at hq1
      · simp at h2 hq1
        exact ⟨r, by rw [h2, hq1]⟩
    have h3 : toL q0 = runW := by rw [← toList_toL]; exact hr
    obtain ⟨D2, hD2⟩ : ∃ D2, D2 = D.drop 2 := ⟨_, rfl⟩
    have hlD : D.length - 2 = D2.length := by rw [hD2, List.length_drop]
    have HS3 : Hid (Sl x1 A2 c2 D2.length 1 (txs D2)) := Lib.hid (by
      have := HSd.out
      rw [hlD] at this
      have e : txs D2 = (txs D).drop 2 := by rw [hD2, txs, txs, List.map_drop]
      rw [e]
      exact this)
    rw [hlD] at hsl2
    have HD2 : Hid (D2.map toL = rrest (D.map toL)) := Lib.hid (by
      obtain ⟨r, hr⟩ := hDD
      rw [hD2, hr]
      simp [rrest, h3])
    have HWQ : Hid (runW ++ 32 :: toL q1 = rword (D.map toL)) := Lib.hid (by
      obtain ⟨r, hr⟩ := hDD
      rw [hr]
      simp [rword, h3])
    have hq1z : q1.size ≤ 1048576 := HDz.out q1 (List.mem_of_getElem? hq1)
    have HD2e := Lib.hid hD2
    clear HS2 HSd hlD hD2 hA2 hc2 hq1 hDD h3
    go_wp2_with fail
    clear hr
    obtain ⟨W, hW⟩ : ∃ W, W = (⟨#[114, 117, 110, 32]⟩ : ByteArray) ++ q1 := ⟨_, rfl⟩
    have HW : Hid (toL W = rword (D.map toL)) := Lib.hid (by rw [hW, toL_append]; exact HWQ.out)
    rw [← hW]
    clear HWQ hsl1 hsl2 hc1 hW
    have HDz2 : Hid (∀ p ∈ D2, p.size ≤ 1048576) := Lib.hid (fun p hp => HDz.out p (by rw [HD2e.out] at hp; exact List.mem_of_mem_drop hp))
    refine (rforms_own _).mono ?_
    rintro e x2 ⟨gF, rfl, hf2, hB2, hgF⟩
    have hx1z := hB2.size
    have HB2 := Lib.hid (HB1.out.trans (hB2.mono HB1.out.size))
    have Hr2 := Lib.hid ((hB2.block w.heap.size hz1).trans Hr1.out)
    have HS4 := Lib.hid (HS3.out.keep (Cells.of_below hB2))
    have Hf2 := Lib.hid hf2
    have Hc0 := Lib.hid ((hB2.cell (World.block_lt_of_cell? x1 _ hc0)).trans hc0)
    clear hf2 hB2 HS3 Hr1 HB1
    go_wp2_with fail
    go_loopw [9] (fun iv wr => RFRel D x2 iv wr) (fun iv _ => 15 - (intOf iv).toNat)
    case atStart => exact ⟨0, by omega, rfl, by simp, Below.refl _ _⟩
    case round =>
      obtain ⟨i, hi, rfl, hno, hB⟩ := hrel
      have Hno := Lib.hid hno
      have HB := Lib.hid hB
      have hgx := hB.size
      clear hno hB
      by_cases hi15 : i < 15
      · have hiI : (i : Int) < 15 := by omega
        have hir : (0 : Int) ≤ i := by omega
        have hlt : i < RFORMS.length := hi15
        have hfi : RFORMS[i]? = some RFORMS[i] := List.getElem?_eq_getElem hlt
        generalize hfg : RFORMS[i] = F at *
        have Hfi := Lib.hid hfi
        have HF : Hid (F ∈ RFORMS) := Lib.hid (List.mem_of_getElem? hfi)
        clear hfg hfi hlt
        have hrow : ∀ j v, (rfV F)[j]? = some v → wr.cell? ⟨gF, i * 4 + j, none⟩ = some v := fun j v hv => by
          have h2 := rfsV_at _ _ _ Hfi.out j v hv
          have h3 := HB.out.block gF (lt_of_heap Hf2.out)
          have h4 := (blk_cells (h3.trans Hf2.out)).1 (i * 4 + j)
          rw [h4, List.getElem?_toArray]
          exact h2
        have Hrow := Lib.hid hrow
        obtain ⟨WF, hWF⟩ : ∃ x, x = mkS F.word := ⟨_, rfl⟩
        obtain ⟨SF, hSF⟩ : ∃ x, x = mkS F.says := ⟨_, rfl⟩
        have f2 : wr.cell? ⟨gF, i * 4 + 2, none⟩ = some (.string WF) := by rw [hWF]; exact hrow 2 _ rfl
        have f3 : wr.cell? ⟨gF, i * 4 + 3, none⟩ = some (.string SF) := by rw [hSF]; exact hrow 3 _ rfl
        have HWF := Lib.hid hWF
        have HSF := Lib.hid hSF
        have c0 : wr.cell? ⟨bw, ow, none⟩ = some (.string q0) := (HB.out.cell (World.block_lt_of_cell? x2 _ Hc0.out)).trans Hc0.out
        clear hrow hWF hSF
        have Hnx : Hid (∀ x3, Below x2.heap.size x2 x3 → rmatch (D.map toL) F = false → RFRel D x2 (.int .i64 ((i : Int) + 1)) x3) := Lib.hid (fun x3 h3 hm => ⟨i + 1, by omega, by go_num, fun f' hf' => by
          rw [take_snoc Hfi.out, List.mem_append, List.mem_singleton] at hf'
          rcases hf' with hf' | rfl
          · exact Hno.out f' hf'
          · exact hm, h3⟩)
        have hseq := str_eq WF W
        by_cases hw : ¬ F.word = rword (D.map toL)
        · have hne : ¬ WF = W := fun e => hw (by rw [← HW.out, ← e, HWF.out, toL_mkS])
          rw [decide_eq_false hne] at hseq
          have Hm := Lib.hid (Hnx.out wr HB.out (by unfold rmatch; rw [decide_eq_false hw]; rfl))
          clear hw hne
          go_wp2_with fail
          exact ⟨Hm.out, by simp [intOf]; omega⟩
        have hw := Decidable.not_not.1 hw
        have heq : WF = W := by
          apply toL_inj
          rw [HW.out, ← hw, HWF.out, toL_mkS]
        rw [decide_eq_true heq] at hseq
        have Hw := Lib.hid hw
        clear hw heq
        go_wp2_with fail
        refine (cut_ref _ q0 32 hq0z).mono ?_
        rintro e x3 ⟨Dc, v, rfl, hownc, hB3, hDc⟩
        obtain ⟨Ac, cc, rfl, _, _, _, _⟩ := own_form hownc
        have hB3' := HB.out.trans (hB3.mono hgx)
        have hlc : Dc.length = (cutL 32 (toL q0)).length := by rw [← hDc, List.length_map]
        have HB3 := Lib.hid hB3'
        have hx3 := hB3'.size
        clear hownc hB3 hDc hB3'
        by_cases h32 : (32 : UInt8) ∈ toL q0
        · have hgt : (1 : Int) < Dc.length := by
            have h1 := cutL_ne 32 (toL q0)
            have h2 : (cutL 32 (toL q0)).length ≠ 0 := fun e => h1 (List.eq_nil_of_length_eq_zero e)
            have h3 : (cutL 32 (toL q0)).length ≠ 1 := fun e => cutL_one.1 e h32
            omega
          have Hm := Lib.hid (Hnx.out x3 HB3.out (by unfold rmatch; rw [Hhd.out, decide_eq_false (p := (32 : UInt8) ∉ toL q0) (fun h => h h32), Bool.and_false]))
          clear h32 hlc
          go_wp2_with fail
          exact ⟨Hm.out, by simp [intOf]; omega⟩
        have hgt : ¬ (1 : Int) < Dc.length := by
          have h3 := cutL_one.2 h32
          omega
        have HR : Hid (rparse (toL s) = rform F (D2.map toL)) := Lib.hid (by
          rw [Hp0.out, ← HD.out, HD2.out]
          exact rfind_at Hfi.out Hno.out (by unfold rmatch; rw [Hhd.out, decide_eq_true Hw.out, decide_eq_true (p := (32 : UInt8) ∉ toL q0) h32]; rfl))
        clear h32 hlc Hnx
        have f2' : x3.cell? ⟨gF, i * 4 + 2, none⟩ = some (.string WF) := by
          have h1 := HB3.out.block gF (lt_of_heap Hf2.out)
          have h2 := HB.out.block gF (lt_of_heap Hf2.out)
          exact (World.cell?_of_block (h1.trans h2.symm)).trans f2
        have hcell : ∀ j v, (rfV F)[j]? = some v → x3.cell? ⟨gF, i * 4 + j, none⟩ = some v := fun j v hv => by
          have h1 := HB3.out.block gF (lt_of_heap Hf2.out)
          have h2 := HB.out.block gF (lt_of_heap Hf2.out)
          exact (World.cell?_of_block (h1.trans h2.symm)).trans (Hrow.out j v hv)
        have g3 : x3.cell? ⟨gF, i * 4 + 3, none⟩ = some (.string SF) := by rw [HSF.out]; exact hcell 3 _ rfl
        have hg0 : x3.cell? ⟨gF, i * 4, none⟩ = some (.int .i64 (F.kind : Nat)) := by have := hcell 0 _ rfl; rwa [Nat.add_zero] at this
        have hg1 : x3.cell? ⟨gF, i * 4 + 1, none⟩ = some (.int .i64 (F.sub : Nat)) := hcell 1 _ rfl
        have HR3 := Lib.hid ((HB3.out.block w.heap.size (lt_of_heap Hr2.out)).trans Hr2.out)
        have HS5 := Lib.hid (HS4.out.keep (Cells.of_below HB3.out))
        have HBW := Lib.hid (HB2.out.trans (HB3.out.mono HB2.out.size))
        have HF5 := Lib.hid (rforms_five HF.out)
        clear f2 f3 f2' c0 hcell hc0 HB Hrow
        by_cases hln : ¬ D2.length = F.says.length
        · have hlb : ((D2.length : Int) != (SF.size : Int)) = true := by rw [bne_iff_ne, HSF.out, mkS_size]; omega
          have Hp : Hid (rparse (toL s) = (zR, 14)) := Lib.hid (by rw [HR.out]; exact rform_len (by rw [List.length_map]; exact hln))
          clear hln
          go_wp2_with ((with_reducible refine at_store 49 ?_); refine wpList_store_row rfl 49 _ _ rfl w.heap.size (rV 0 0 nilV nilV) rfl rfl 49 (rV 0 0 nilV nilV) HR3.out sizeR rfl (rV_one rfl rfl) ?_)
          refine bodyPost_ret (res_cell2 rfl _ _ w.heap.size 49 (rV 0 0 nilV nilV) (0, 0) rfl (setRow_heap _ _ _ _ _ _ HR3.out) Tryd.underlying49 rfl sizeR) rfl ?_
          exact rp_zero Hp.out (below_row HBW.out (Nat.le_refl _) _)
        have hle := Decidable.not_not.1 hln
        have hlb : ((D2.length : Int) != (SF.size : Int)) = false := by rw [bne_eq_false_iff_eq, HSF.out, mkS_size]; omega
        have Hle := Lib.hid hle
        clear hln hle
        go_wp2_with fail
        have hg0d : x3.drew.cell? ⟨gF, i * 4, none⟩ = some (.int .i64 (F.kind : Nat)) := hg0
        have hg1d : x3.drew.cell? ⟨gF, i * 4 + 1, none⟩ = some (.int .i64 (F.sub : Nat)) := hg1
        with_reducible refine g_mixx [(0, 1), (1, 1), (2, 1), (3, 1), (4, 0), (5, 1), (6, 1), (7, 1), (8, 1), (9, 0), (10, 1), (11, 2), (12, 3)] (fun w' => w'.cell? ⟨gF, i * 4, none⟩ = some (.int .i64 (F.kind : Nat)) ∧ w'.cell? ⟨gF, i * 4 + 1, none⟩ = some (.int .i64 (F.sub : Nat))) 0 _ rfl (by kernel_rfl) (by kernel_rfl) ?_ ?_
        · exact ⟨hg0d, hg1d⟩
        intro OPS HD
        simp only [mixX, nthO, consX]
        iterate 4 ((with_reducible refine x_any (v := ?_) ?_ ?_); rotate_left; (rintro _; go_simp; first | done | rfl | (constructor <;> rfl)))
        iterate 1 ((with_reducible refine x_val (v := ?_) ?_ ?_ ?_); rotate_left; (rintro _ ⟨h1, h2⟩; go_simp; first | done | rfl | (constructor <;> rfl)); exact ⟨hg0d, hg1d⟩)
        iterate 4 ((with_reducible refine x_any (v := ?_) ?_ ?_); rotate_left; (rintro _; go_simp; first | done | rfl | (constructor <;> rfl)))
        iterate 1 ((with_reducible refine x_val (v := ?_) ?_ ?_ ?_); rotate_left; (rintro _ ⟨h1, h2⟩; go_simp; first | done | rfl | (constructor <;> rfl)); exact ⟨hg0d, hg1d⟩)
        iterate 1 ((with_reducible refine x_any (v := ?_) ?_ ?_); rotate_left; (rintro _; go_simp; first | done | rfl | (constructor <;> rfl)))
        with_reducible refine x_one ?_
        iterate 1 (with_reducible refine l_val (v := ?_) (w' := ?_) ?_ ?_; rotate_left 2; (go_simp; first | done | rfl | (constructor <;> rfl)))
        refine x_keep ⟨Cells.alloc _ _ _ _ hg0d, Cells.alloc _ _ _ _ hg1d⟩ ?_
        with_reducible refine x_three ?_
        refine wpList_store_row rfl 49 _ _ rfl x3.heap.size (rV (F.kind : Nat) (F.sub : Nat) nilV nilV) (by simp [Act.eval, Act.put]) (by simp [Act.eval, Act.put, rV, rL, nilV]) 49 (rV 0 0 nilV nilV) (heap_alloc_new x3 _) sizeR rfl (rV_one rfl rfl) ?_
        with_reducible refine x_last ?_
        with_reducible refine x_end ?_
        simp only [Act.put, List.setIfInBounds_toArray, List.set_cons_zero, List.set_cons_succ]
        obtain ⟨x4, hx4⟩ : ∃ x4, x4 = (World.drew (x3.alloc (.cells #[.int .i64 0, .int .i64 0, .slice none 0 0, .slice none 0 0] 49))).setRow x3.heap.size (rV (F.kind : Nat) (F.sub : Nat) nilV nilV) := ⟨_, rfl⟩
        rw [← hx4]
        obtain ⟨ba, hba⟩ : ∃ ba, ba = x3.heap.size := ⟨_, rfl⟩
        have hb4 : x4.heap[ba]? = some (.cells (rV (F.kind : Nat) (F.sub : Nat) nilV nilV) 49 (0, 0)) := by
          have hh : (World.drew (x3.alloc (.cells #[.int .i64 0, .int .i64 0, .slice none 0 0, .slice none 0 0] 49))).heap[x3.heap.size]? = some (.cells (rV 0 0 nilV nilV) 49 (0, 0)) := heap_alloc_new x3 _
          rw [hx4, hba]
          exact setRow_heap _ _ _ _ _ _ hh
        have hB34 : Below x3.heap.size x3 x4 := by
          rw [hx4]
          exact below_row (below_drewN ((Below.refl x3.heap.size x3).alloc (Nat.le_refl _) _) 1) (Nat.le_refl _) _
        rw [← hba]
        have hx34 := hB34.size
        have hbl4 := lt_of_heap hb4
        have h4 : x4.cell? ⟨gF, i * 4 + 3, none⟩ = some (.string SF) := (hB34.cell (World.block_lt_of_cell? x3 _ g3)).trans g3
        have hgFl : gF < ba := by rw [hba]; exact World.block_lt_of_cell? x3 _ g3
        have HB4 := Lib.hid (HBW.out.trans (hB34.mono HBW.out.size))
        have HR4 := Lib.hid ((hB34.block w.heap.size (lt_of_heap HR3.out)).trans HR3.out)
        have hrl4 : w.heap.size < ba := by rw [hba]; exact lt_of_heap HR3.out
        have HS6 := Lib.hid (HS5.out.keep (Cells.of_below hB34))
        have Hwlt : Hid (∀ k x, D2[k]? = some x → ∃ b o, A2 = some ⟨b, o, none⟩ ∧ b < ba ∧ x4.cell? ⟨b, o + k, none⟩ = some (.string x)) := Lib.hid (fun k x hk => by
          have hkl := (List.getElem?_eq_some_iff.1 hk).1
          obtain ⟨b, o, y, h1, h2, h3⟩ := str_at (w := x3) (x := D2) HS5.out hkl
          obtain ⟨b', o', y', h1', h2', h3'⟩ := str_at (w := x4) (x := D2) HS6.out hkl
          rw [h1] at h1'
          cases h1'
          rw [hk] at h2'
          cases h2'
          exact ⟨b, o, h1, by rw [hba]; exact World.block_lt_of_cell? x3 _ h3, h3'⟩)
        have Hb4 := Lib.hid hb4
        have Hh4 := Lib.hid h4
        have hD5 : D2.length ≤ 5 := by rw [Hle.out]; exact HF5.out
        clear hx4 hb4 hB34 hg0d hg1d hg0 hg1 g3 hx34 h4 HD hba
        go_wp2_with fail
        go_loopw [11] (fun kv wy => NRel x4 ba F D2 kv wy) (fun kv _ => D2.length - (intOf kv).toNat)
        case atStart => exact ⟨0, [], nilV, by omega, rfl, NumAt.zero _ _, by simp, Fr.refl _ _, Hb4.out, World.ownsRow_nil _ _ _ _⟩
        case round =>
          obtain ⟨k, acc, vn, hk, rfl, hat, hac, hfr, hb, hown⟩ := hrel
          have Hat := Lib.hid hat
          have Hfr := Lib.hid hfr
          have Hb := Lib.hid hb
          have Hown := Lib.hid hown
          have hxz := hfr.size
          have hsf : wr.cell? ⟨gF, i * 4 + 3, none⟩ = some (.string SF) := (World.cell?_of_block (hfr.block gF (by omega) (by simp; omega))).trans Hh4.out
          clear hat hfr hb hown
          by_cases hlt : k < D2.length
          · have hkI : (k : Int) < D2.length := by omega
            have hkr : (0 : Int) ≤ k := by omega
            have hks : k < F.says.length := by rw [← Hle.out]; exact hlt
            have hkS : k < SF.size := by rw [HSF.out, mkS_size]; exact hks
            obtain ⟨ch, hch⟩ : ∃ ch, ch = F.says.getD k 0 := ⟨_, rfl⟩
            have hcb : SF[k] = ch := (str_byte hkS).trans (by rw [hch, HSF.out, toL_mkS])
            obtain ⟨xk, hxk⟩ : ∃ x, D2[k]? = some x := ⟨_, List.getElem?_eq_getElem hlt⟩
            obtain ⟨b2, o2, rfl, hb2, hc2⟩ := Hwlt.out k xk hxk
            have hcx : wr.cell? ⟨b2, o2 + k, none⟩ = some (.string xk) := (World.cell?_of_block (Hfr.out.block b2 (by omega) (by simp; omega))).trans hc2
            have hxs : xk.size ≤ 1048576 := HDz2.out xk (List.mem_of_getElem? hxk)
            have Hch := Lib.hid (getD_at hks hch)
            have Hxk := Lib.hid (map_at hxk)
            have hkSI : (k : Int) < SF.size := by omega
            clear hch hxk hc2
            by_cases hc : ¬ ch = 110
            · have hcI : ((ch.toNat : Int) == 110) = false := by
                rw [beq_eq_false_iff_ne]
                intro h
                have h2 : (110 : UInt8).toNat = 110 := rfl
                exact hc (UInt8.toNat_inj.1 (by omega))
              have Hm : Hid (NRel x4 ba F D2 (.int .i64 ((k : Int) + 1)) wr) := Lib.hid ⟨k + 1, acc, vn, by omega, by go_num, Hat.out.skip Hch.out Hxk.out hc, by omega, Hfr.out, Hb.out, Hown.out⟩
              clear hc
              go_wp2_with fail
              exact ⟨Hm.out, by simp [intOf]; omega⟩
            have hc := Decidable.not_not.1 hc
            have hcI : ((ch.toNat : Int) == 110) = true := by rw [hc]; rfl
            have Hc := Lib.hid hc
            clear hc
            go_wp2_with fail
            refine (number_ref xk hxs wr).mono ?_
            rintro e w1 ⟨rfl, n, ok, rfl, hn⟩
            cases ok with
            | false =>
              rw [if_neg (by decide)] at hn
              have Hp : Hid (rparse (toL s) = (zR, 6)) := Lib.hid (by rw [HR.out]; exact rform_num (by rw [List.length_map]; exact Hle.out) (Hat.out.fail Hch.out Hxk.out Hc.out hn))
              have HRR := Lib.hid ((Hfr.out.block w.heap.size (by omega) (by simp; omega)).trans HR4.out)
              have HBx := Lib.hid (HB4.out.trans (Hfr.out.below (B := w.heap.size) HB4.out.size (by intro q hq; simp at hq; omega)))
              clear hn
              go_wp2_with ((with_reducible refine at_store 49 ?_); refine wpList_store_row rfl 49 _ _ rfl w.heap.size (rV 0 0 nilV nilV) rfl rfl 49 (rV 0 0 nilV nilV) HRR.out sizeR rfl (rV_one rfl rfl) ?_)
              refine bodyPost_ret (res_cell2 rfl _ _ w.heap.size 49 (rV 0 0 nilV nilV) (0, 0) rfl (setRow_heap _ _ _ _ _ _ HRR.out) Tryd.underlying49 rfl sizeR) rfl ?_
              exact rp_zero Hp.out (below_row HBx.out (Nat.le_refl _) _)
            | true =>
              rw [if_pos rfl] at hn
              have Hn := Lib.hid hn
              obtain ⟨Av, cv, rfl, _, _, _, _⟩ := own_form Hown.out
              have hc3 : wr.cell? ⟨ba, 3, none⟩ = some (.slice Av acc.length cv) := (blk_cells Hb.out).1 3
              have hac5 : acc.length ≤ 5 := by omega
              obtain ⟨iI, hiI2, hzI, hsI, hbI⟩ := info_parts infoInt
              clear hn
              go_wp2_with (first | (at_builtin; refine wpList_append_own _ rfl _ _ 47 rfl x4.heap.size 3 iI (.int .i64 0) 1 8 Tryd.underlying47 hiI2 hzI hsI hbI rfl (by omega) (.slice Av acc.length cv) acc.length (intsV acc) rfl (Hown.out.alloc _) ⟨wr.heap.size, 0, none⟩ 1 1 [.int .i64 n] rfl rfl (fun j v hv => World.news_of_block (w := wr.alloc _) (heap_alloc_new wr _) j v hv) (ints_one [n]) (by unfold maxLen; omega) (by omega) (by simp; omega) ?_))
              intro v1 wp hown1 hgrow1 _
              have hnb : ∀ q, (Value.slice Av acc.length cv).ownBlock = some q → x4.heap.size ≤ q := fun q hq => (own_blk Hown.out q hq).1
              have hgg : ∀ q, q < wr.heap.size → q < x4.heap.size → wp.heap[q]? = wr.heap[q]? := fun q hq hq0 => (hgrow1.block q (by simp; omega) (fun e => by have := hnb q e.symm; omega)).trans (Below.heap_alloc _ _ _ hq)
              have hb5 := (hgg ba (lt_of_heap Hb.out) hbl4).trans Hb.out
              have hfr5 : Fr [ba] x4 wp := ⟨hgrow1.os.trans Hfr.out.os, hgrow1.tape.trans Hfr.out.tape, hgrow1.output.trans Hfr.out.output, by have := hgrow1.size; simp at this; omega, fun q hq hn => (hgg q (by omega) hq).trans (Hfr.out.block q hq hn)⟩
              have hc5 : wp.cell? ⟨ba, 3, none⟩ = some (.slice Av acc.length cv) := (blk_cells hb5).1 3
              have hz5 := (blk_cells hb5).2.1 3
              obtain ⟨Av1, cv1, rfl, _, _, _, _⟩ := own_form hown1
              have hm : NRel x4 ba F D2 (.int .i64 ((k : Int) + 1)) (wp.setCell ⟨ba, 3, none⟩ (.slice Av1 (acc.length + 1) cv1)) := by
                refine ⟨k + 1, acc ++ [n], .slice Av1 (acc.length + 1) cv1, by omega, by go_num, Hat.out.take Hch.out Hxk.out Hc.out Hn.out, by simp; omega, hfr5.trans (Fr.setCell [ba] wp ⟨ba, 3, none⟩ _ (by simp)), ?_, ?_⟩
                · rw [heap_setCell_at hb5]
                  rfl
                · have e1 : (acc ++ [n]).length = acc.length + 1 := by simp
                  have e2 : intsV (acc ++ [n]) = intsV acc ++ [.int .i64 n] := by simp [intsV]
                  rw [e1, e2]
                  exact own_keep hown1 fun q cs hq => by
                    rw [(Fr.setCell [ba] wp ⟨ba, 3, none⟩ _ (by simp)).block q (lt_of_heap hq) (by
                      rintro hqb
                      simp only [List.mem_singleton] at hqb
                      subst hqb
                      rw [hb5] at hq
                      cases hq)]
                    exact hq
              have Hm := Lib.hid hm
              clear hm hown1 hgrow1 hnb hgg hb5 hfr5 hc3
              go_wp2_with fail
              exact ⟨Hm.out, by simp [intOf]; omega⟩
          · have hkI : ¬ (k : Int) < D2.length := by omega
            have hkd : k = D2.length := by omega
            have HN : Hid (numsR F.says (D2.map toL) = some acc) := Lib.hid (Hat.out.end_ (by rw [← Hle.out]; omega))
            have HBx := Lib.hid (HB4.out.trans (Hfr.out.below (B := w.heap.size) HB4.out.size (by intro q hq; simp at hq; omega)))
            have HR5 := Lib.hid ((Hfr.out.block w.heap.size (by omega) (by simp; omega)).trans HR4.out)
            have Hw5 : Hid (∀ k x, D2[k]? = some x → ∃ b o, A2 = some ⟨b, o, none⟩ ∧ b < ba ∧ wr.cell? ⟨b, o + k, none⟩ = some (.string x)) := Lib.hid (fun k x hk => by
              obtain ⟨b, o, h1, h2, h3⟩ := Hwlt.out k x hk
              exact ⟨b, o, h1, h2, (World.cell?_of_block (Hfr.out.block b (by omega) (by simp; omega))).trans h3⟩)
            have hac5 : acc.length ≤ 5 := by omega
            have Hh5 := Lib.hid hsf
            have hb5l := lt_of_heap Hb.out
            obtain ⟨An, cn, rfl, _, _, _, _⟩ := own_form Hown.out
            have Hb5 := Lib.hid Hb.out
            clear hlt Hat Hfr HB4 HR4 Hwlt Hh4 Hb4 hsf hkd
            go_wp2_with fail
            generalize wr = x5 at *
            go_loopw [14] (fun kv wy => TRel x5 ba F D2 (.slice An acc.length cn) kv wy) (fun kv _ => D2.length - (intOf kv).toNat)
            case atStart => exact ⟨0, [], nilV, _, by omega, rfl, TextAt.zero _ _, SubAt.zero _ _, by simp, Fr.refl _ _, Hb.out, World.ownsRow_nil _ _ _ _⟩
            case round =>
              clear hk hac
              obtain ⟨k, L, vt, sb, hk, rfl, hat, hsa, hac, hfr, hb, hown⟩ := hrel
              have Hat := Lib.hid hat
              have Hsa := Lib.hid hsa
              have Hfr := Lib.hid hfr
              have Hb := Lib.hid hb
              have Hot := Lib.hid hown
              have hxz2 := hfr.size
              have hsf : wr.cell? ⟨gF, i * 4 + 3, none⟩ = some (.string SF) := (World.cell?_of_block (hfr.block gF (by omega) (by simp; omega))).trans Hh5.out
              clear hat hsa hfr hb hown
              by_cases hlt : k < D2.length
              · have hkI : (k : Int) < D2.length := by omega
                have hkr : (0 : Int) ≤ k := by omega
                have hks : k < F.says.length := by rw [← Hle.out]; exact hlt
                have hkS : k < SF.size := by rw [HSF.out, mkS_size]; exact hks
                obtain ⟨ch, hch⟩ : ∃ ch, ch = F.says.getD k 0 := ⟨_, rfl⟩
                have hcb : SF[k] = ch := (str_byte hkS).trans (by rw [hch, HSF.out, toL_mkS])
                obtain ⟨xk, hxk⟩ : ∃ x, D2[k]? = some x := ⟨_, List.getElem?_eq_getElem hlt⟩
                obtain ⟨b2, o2, rfl, hb2, hc2⟩ := Hw5.out k xk hxk
                have hcx : wr.cell? ⟨b2, o2 + k, none⟩ = some (.string xk) := (World.cell?_of_block (Hfr.out.block b2 (by omega) (by simp; omega))).trans hc2
                have Hch := Lib.hid (getD_at hks hch)
                have Hxk := Lib.hid (map_at hxk)
                have hkSI : (k : Int) < SF.size := by omega
                clear hch hxk hc2
                by_cases hc : ch = 116
                · have hcI : ((ch.toNat : Int) == 116) = true := by rw [hc]; rfl
                  have Hc := Lib.hid hc
                  have hL5 : L.length ≤ 5 := by omega
                  obtain ⟨Av, cv, rfl, _, _, _, _⟩ := own_form Hot.out
                  have hc2 : wr.cell? ⟨ba, 2, none⟩ = some (.slice Av L.length cv) := (blk_cells Hb.out).1 2
                  have hc2d : wr.drew.cell? ⟨ba, 2, none⟩ = some (.slice Av L.length cv) := hc2
                  have hcxd : wr.drew.cell? ⟨b2, o2 + k, none⟩ = some (.string xk) := hcx
                  obtain ⟨iS, hiS, hzS, hsS, hbS⟩ := info_parts infoStr1
                  have Hod : Hid (wr.drew.ownsRow x5.heap.size 9 1 (.slice Av L.length cv) L.length (txs L)) := Lib.hid (own_keep Hot.out fun q cs hq => hq)
                  clear hc
                  go_wp2_with fail
                  with_reducible refine g_mixx [(0, 1), (1, 0), (2, 1), (3, 1), (4, 1), (5, 0), (6, 2), (7, 3), (8, 1), (9, 3)] (fun w' => w'.cell? ⟨ba, 2, none⟩ = some (.slice Av L.length cv) ∧ w'.cell? ⟨b2, o2 + k, none⟩ = some (.string xk)) 0 _ rfl (by kernel_rfl) (by kernel_rfl) ?_ ?_
                  · exact ⟨hc2d, hcxd⟩
                  intro OPS HD
                  simp only [mixX, nthO, consX]
                  iterate 1 ((with_reducible refine x_any (v := ?_) ?_ ?_); rotate_left; (rintro _; go_simp; first | done | rfl | (constructor <;> rfl)))
                  iterate 1 ((with_reducible refine x_val (v := ?_) ?_ ?_ ?_); rotate_left; (rintro _ ⟨h1, h2⟩; go_simp; first | done | rfl | (constructor <;> rfl)); exact ⟨hc2d, hcxd⟩)
                  iterate 3 ((with_reducible refine x_any (v := ?_) ?_ ?_); rotate_left; (rintro _; go_simp; first | done | rfl | (constructor <;> rfl)))
                  iterate 1 ((with_reducible refine x_val (v := ?_) ?_ ?_ ?_); rotate_left; (rintro _ ⟨h1, h2⟩; go_simp; first | done | rfl | (constructor <;> rfl)); exact ⟨hc2d, hcxd⟩)
                  with_reducible refine x_one ?_
                  iterate 1 (with_reducible refine l_val (v := ?_) (w' := ?_) ?_ ?_; rotate_left 2; (go_simp; first | done | rfl | (constructor <;> rfl)))
                  refine x_keep ⟨Cells.alloc _ _ _ _ hc2d, Cells.alloc _ _ _ _ hcxd⟩ ?_
                  with_reducible refine x_three ?_
                  refine wpList_append_own _ rfl (.tmp 138) (.tmp 143) 39 rfl x5.heap.size 9 iS (.string ByteArray.empty) 1 16 Tryd.underlying39 hiS hzS hsS hbS rfl (by omega) (.slice Av L.length cv) L.length (txs L) ?_ (Hod.out.alloc _) ⟨wr.drew.heap.size, 0, none⟩ 1 1 [.string xk] ?_ rfl (fun j v hv => World.news_of_block (w := wr.drew.alloc _) (heap_alloc_new wr.drew _) j v hv) (txs_one [xk]) (by unfold maxLen; omega) (by omega) (by simp; omega) ?_
                  · simp [Act.eval, Act.put]
                  · simp [Act.eval, Act.put]
                  intro v1 wp hown1 hgrow1 _
                  have hx5d : x5.heap.size ≤ wr.drew.heap.size := hxz2
                  have hnb : ∀ q, (Value.slice Av L.length cv).ownBlock = some q → x5.heap.size ≤ q := fun q hq => (own_blk Hod.out q hq).1
                  have hgg : ∀ q, q < wr.heap.size → q < x5.heap.size → wp.heap[q]? = wr.heap[q]? := fun q hq hq0 => (hgrow1.block q (by simp; omega) (fun e => by have := hnb q e.symm; omega)).trans (Below.heap_alloc wr.drew _ _ hq)
                  have hb6 := (hgg ba (lt_of_heap Hb.out) hb5l).trans Hb.out
                  have hfr6 : Fr [ba] x5 wp := ⟨hgrow1.os.trans Hfr.out.os, hgrow1.tape.trans Hfr.out.tape, hgrow1.output.trans Hfr.out.output, by have := hgrow1.size; simp at this; omega, fun q hq hn => (hgg q (by omega) hq).trans (Hfr.out.block q hq hn)⟩
                  have hc6 : wp.cell? ⟨ba, 2, none⟩ = some (.slice Av L.length cv) := (blk_cells hb6).1 2
                  have hz6 := (blk_cells hb6).2.1 2
                  obtain ⟨Av1, cv1, rfl, _, _, _, _⟩ := own_form hown1
                  have hm : TRel x5 ba F D2 (.slice An acc.length cn) (.int .i64 ((k : Int) + 1)) (wp.setCell ⟨ba, 2, none⟩ (.slice Av1 (L.length + 1) cv1)) := by
                    refine ⟨k + 1, L ++ [xk], .slice Av1 (L.length + 1) cv1, sb, by omega, by go_num, by rw [List.map_append]; exact Hat.out.take Hch.out Hxk.out Hc.out, Hsa.out.skip HF.out Hch.out (by rw [Hc.out]; decide), by simp; omega, hfr6.trans (Fr.setCell [ba] wp ⟨ba, 2, none⟩ _ (by simp)), ?_, ?_⟩
                    · rw [heap_setCell_at hb6]
                      rfl
                    · have e1 : (L ++ [xk]).length = L.length + 1 := by simp
                      rw [e1]
                      have h7 := txs_push hown1
                      rw [e1] at h7
                      exact own_keep h7 fun q cs hq => by
                        rw [(Fr.setCell [ba] wp ⟨ba, 2, none⟩ _ (by simp)).block q (lt_of_heap hq) (by
                          rintro hqb
                          simp only [List.mem_singleton] at hqb
                          subst hqb
                          rw [hb6] at hq
                          cases hq)]
                        exact hq
                  have Hm := Lib.hid hm
                  clear hm hown1 hgrow1 hnb hgg hb6 hfr6 hc2 hc2d hcxd
                  with_reducible refine x_last ?_
                  iterate 1 ((with_reducible refine x_any (v := ?_) ?_ ?_); rotate_left; (rintro _; go_simp; first | done | rfl | (constructor <;> rfl)))
                  with_reducible refine x_three ?_
                  with_reducible refine l_skip (w' := wp.setCell ⟨ba, 2, none⟩ (.slice Av1 (L.length + 1) cv1)) ?_ ?_
                  · go_simp
                  with_reducible refine x_last ?_
                  with_reducible refine x_end ?_
                  simp only [Act.put, List.setIfInBounds_toArray, List.set_cons_zero, List.set_cons_succ]
                  clear hc6 hz6 hcx
                  go_wp2_with fail
                  exact ⟨Hm.out, by simp [intOf]; omega⟩
                have hcI : ((ch.toNat : Int) == 116) = false := by
                  rw [beq_eq_false_iff_ne]
                  intro h
                  have h2 : (116 : UInt8).toNat = 116 := rfl
                  exact hc (UInt8.toNat_inj.1 (by omega))
                have Hc := Lib.hid hc
                clear hc
                by_cases hc : ¬ ch = 107
                · have hcK : ((ch.toNat : Int) == 107) = false := by
                    rw [beq_eq_false_iff_ne]
                    intro h
                    have h2 : (107 : UInt8).toNat = 107 := rfl
                    exact hc (UInt8.toNat_inj.1 (by omega))
                  have Hm : Hid (TRel x5 ba F D2 (.slice An acc.length cn) (.int .i64 ((k : Int) + 1)) wr) := Lib.hid ⟨k + 1, L, vt, sb, by omega, by go_num, Hat.out.skip Hch.out Hxk.out Hc.out, Hsa.out.skip HF.out Hch.out hc, by omega, Hfr.out, Hb.out, Hot.out⟩
                  clear hc
                  go_wp2_with fail
                  exact ⟨Hm.out, by simp [intOf]; omega⟩
                have hc := Decidable.not_not.1 hc
                subst hc
                have hll : (D2.map toL).length = F.says.length := by rw [List.length_map]; exact Hle.out
                obtain rfl : sb = 0 := Hsa.out.start HF.out hll Hch.out Hxk.out
                have Hll := Lib.hid hll
                clear hll hcI
                go_wp2_with fail
                refine (rkinds_any _).mono ?_
                rintro e x6 ⟨rfl, hx6⟩
                obtain ⟨gK, hgK⟩ : ∃ gK, gK = wr.heap.size := ⟨_, rfl⟩
                have hK6 : x6.heap[gK]? = some (.cells (txs KW).toArray 9 (0, 0)) := by rw [hx6, hgK]; exact heap_alloc_new wr _
                have hB6 : Below wr.heap.size wr x6 := by rw [hx6]; exact (Below.refl _ _).alloc (Nat.le_refl _) _
                have hbal := lt_of_heap Hb.out
                have hbK : ba < gK := by omega
                have hK6l := lt_of_heap hK6
                have Hb6 := Lib.hid ((hB6.block ba hbal).trans Hb.out)
                have Hfr6 := Lib.hid (Hfr.out.trans (Fr.of_below hB6 [ba]))
                have Hot6 : Hid (x6.ownsRow x5.heap.size 9 1 vt L.length (txs L)) := Lib.hid (own_keep Hot.out fun q cs hq => (hB6.block q (lt_of_heap hq)).trans hq)
                have hcx6 : x6.cell? ⟨b2, o2 + k, none⟩ = some (.string xk) := (hB6.cell (World.block_lt_of_cell? wr _ hcx)).trans hcx
                have HK6 := Lib.hid hK6
                have Hcx6 := Lib.hid hcx6
                have h56 : x5.heap.size ≤ x6.heap.size := Nat.le_trans hxz2 hB6.size
                have h7l : L.length ≤ 5 := by omega
                rw [← hgK]
                clear hx6 hgK hK6 hB6 hcx6 hcx Hot Hfr Hb hsf hcb hbal hxz2
                go_wp2_with fail
                generalize wr = x7 at *
                go_loopw [16] (fun jv wz => JRel x6 ba F (toL xk) vt (.slice An acc.length cn) jv wz) (fun jv _ => 7 - (intOf jv).toNat)
                case atStart => exact ⟨0, 0, by omega, rfl, KindAt.zero _, Fr.refl _ _, Hb6.out⟩
                case round =>
                  obtain ⟨j, sj, hj, rfl, hkat, hfrj, hbj⟩ := hrel
                  have Hkat := Lib.hid hkat
                  have Hfrj := Lib.hid hfrj
                  have Hbj := Lib.hid hbj
                  clear hkat hfrj hbj
                  have hjz := Hfrj.out.size
                  have hcxj : wr.drew.cell? ⟨b2, o2 + k, none⟩ = some (.string xk) := (World.cell?_of_block (w' := wr.drew) (Hfrj.out.block b2 (by omega) (by simp; omega))).trans Hcx6.out
                  by_cases hjl : j < 7
                  · have hjI : (j : Int) < 7 := by omega
                    have hjr : (0 : Int) ≤ j := by omega
                    obtain ⟨l, hkt⟩ := kt_at ⟨j, hjl⟩
                    have hkt' : KT[j]? = some (((j + 1 : Nat) : Int), l) := hkt
                    have hkw : (txs KW)[j]? = some (.string (mkS l)) := by
                      rw [txs, KW, List.getElem?_map, List.getElem?_map, hkt']
                      rfl
                    obtain ⟨Q, hQ⟩ : ∃ Q, Q = mkS l := ⟨_, rfl⟩
                    have hcq : wr.drew.cell? ⟨gK, j, none⟩ = some (.string Q) := by
                      have h1 := (Hfrj.out.block gK hK6l (by simp; omega)).trans HK6.out
                      have h2 := (blk_cells h1).1 j
                      rw [List.getElem?_toArray, hkw, ← hQ] at h2
                      exact h2
                    have Hkt := Lib.hid hkt'
                    have HQ := Lib.hid hQ
                    clear hkt hkt' hkw hQ
                    have hseq2 := str_eq Q xk
                    by_cases hx : ¬ l = toL xk
                    · have hne : ¬ Q = xk := fun e => hx (by rw [← e, HQ.out, toL_mkS])
                      rw [decide_eq_false hne] at hseq2
                      have Hm : Hid (JRel x6 ba F (toL xk) vt (.slice An acc.length cn) (.int .i64 ((j : Int) + 1)) wr.drew) := Lib.hid ⟨j + 1, sj, by omega, by go_num, Hkat.out.no Hkt.out hx, Hfrj.out.drewN 1, Hbj.out⟩
                      clear hx hne
                      go_wp2_with fail
                      with_reducible refine g_mixx [(0, 1), (1, 1), (2, 1), (3, 0), (4, 1), (5, 1), (6, 1), (7, 0), (8, 1)] (fun w' => w'.cell? ⟨gK, j, none⟩ = some (.string Q) ∧ w'.cell? ⟨b2, o2 + k, none⟩ = some (.string xk)) 0 _ rfl (by kernel_rfl) (by kernel_rfl) ?_ ?_
                      · exact ⟨hcq, hcxj⟩
                      intro OPS HD
                      simp only [mixX, nthO, consX]
                      iterate 3 ((with_reducible refine x_any (v := ?_) ?_ ?_); rotate_left; (rintro _; go_simp; first | done | rfl | (constructor <;> rfl)))
                      iterate 1 ((with_reducible refine x_val (v := ?_) ?_ ?_ ?_); rotate_left; (rintro _ ⟨h1, h2⟩; go_simp; first | done | rfl | (constructor <;> rfl)); exact ⟨hcq, hcxj⟩)
                      iterate 3 ((with_reducible refine x_any (v := ?_) ?_ ?_); rotate_left; (rintro _; go_simp; first | done | rfl | (constructor <;> rfl)))
                      iterate 1 ((with_reducible refine x_val (v := ?_) ?_ ?_ ?_); rotate_left; (rintro _ ⟨h1, h2⟩; go_simp; first | done | rfl | (constructor <;> rfl)); exact ⟨hcq, hcxj⟩)
                      iterate 1 ((with_reducible refine x_any (v := ?_) ?_ ?_); rotate_left; (rintro _; go_simp; first | done | rfl | (constructor <;> rfl)))
                      with_reducible refine x_end ?_
                      simp only [Act.put, List.setIfInBounds_toArray, List.set_cons_zero, List.set_cons_succ]
                      clear HD
                      go_wp2_with fail
                      exact ⟨Hm.out, by simp [intOf]; omega⟩
                    have hx := Decidable.not_not.1 hx
                    have heq : Q = xk := by
                      apply toL_inj
                      rw [HQ.out, toL_mkS, hx]
                    rw [decide_eq_true heq] at hseq2
                    have hbd : wr.drew.heap[ba]? = some (.cells (rV (F.kind : Nat) sj vt (.slice An acc.length cn)) 49 (0, 0)) := Hbj.out
                    have hc1j : wr.drew.cell? ⟨ba, 1, none⟩ = some (.int .i64 sj) := (blk_cells hbd).1 1
                    have hz1j := (blk_cells hbd).2.1 1
                    have hjw : IntKind.i64.wrap ((j : Int) + 1) = (j : Int) + 1 := by rw [IntKind.wrap_i64]; omega
                    have Hm : Hid (JRel x6 ba F (toL xk) vt (.slice An acc.length cn) (.int .i64 ((j : Int) + 1)) (wr.drew.setCell ⟨ba, 1, none⟩ (.int .i64 ((j : Int) + 1)))) := Lib.hid ⟨j + 1, (j : Int) + 1, by omega, by go_num, KindAt.yes (i := (j : Int) + 1) (by rw [Hkt.out]; rfl) hx, (Hfrj.out.drewN 1).trans (Fr.setCell [ba] wr.drew ⟨ba, 1, none⟩ _ (by simp)), by rw [heap_setCell_at hbd]; rfl⟩
                    clear hx heq hbd
                    go_wp2_with fail
                    with_reducible refine g_mixx [(0, 1), (1, 1), (2, 1), (3, 0), (4, 1), (5, 1), (6, 1), (7, 0), (8, 1)] (fun w' => w'.cell? ⟨gK, j, none⟩ = some (.string Q) ∧ w'.cell? ⟨b2, o2 + k, none⟩ = some (.string xk)) 0 _ rfl (by kernel_rfl) (by kernel_rfl) ?_ ?_
                    · exact ⟨hcq, hcxj⟩
                    intro OPS HD
                    simp only [mixX, nthO, consX]
                    iterate 3 ((with_reducible refine x_any (v := ?_) ?_ ?_); rotate_left; (rintro _; go_simp; first | done | rfl | (constructor <;> rfl)))
                    iterate 1 ((with_reducible refine x_val (v := ?_) ?_ ?_ ?_); rotate_left; (rintro _ ⟨h1, h2⟩; go_simp; first | done | rfl | (constructor <;> rfl)); exact ⟨hcq, hcxj⟩)
                    iterate 3 ((with_reducible refine x_any (v := ?_) ?_ ?_); rotate_left; (rintro _; go_simp; first | done | rfl | (constructor <;> rfl)))
                    iterate 1 ((with_reducible refine x_val (v := ?_) ?_ ?_ ?_); rotate_left; (rintro _ ⟨h1, h2⟩; go_simp; first | done | rfl | (constructor <;> rfl)); exact ⟨hcq, hcxj⟩)
                    iterate 1 ((with_reducible refine x_any (v := ?_) ?_ ?_); rotate_left; (rintro _; go_simp; first | done | rfl | (constructor <;> rfl)))
                    with_reducible refine x_end ?_
                    simp only [Act.put, List.setIfInBounds_toArray, List.set_cons_zero, List.set_cons_succ]
                    clear HD hcq hcxj
                    go_wp2_with fail
                    exact ⟨Hm.out, by simp [intOf]; omega⟩
                  · have hjI : ¬ (j : Int) < 7 := by omega
                    have hj7 : j = 7 := by omega
                    subst hj7
                    have hsj := Hkat.out.end_
                    have hc1j : wr.cell? ⟨ba, 1, none⟩ = some (.int .i64 sj) := (blk_cells Hbj.out).1 1
                    have Hsj := Lib.hid hsj
                    clear hsj hjl hj
                    by_cases hs0 : sj = 0
                    · have hs0b : (sj == 0) = true := by rw [hs0]; rfl
                      have Hp : Hid (rparse (toL s) = (zR, 11)) := Lib.hid (by rw [HR.out]; exact rform_bad HF.out Hll.out Hch.out Hxk.out (by rw [← Hsj.out]; exact hs0) HN.out)
                      have hw0 : w.heap.size < x5.heap.size := by omega
                      have HRR := Lib.hid ((Hfrj.out.block w.heap.size (by omega) (by simp; omega)).trans ((Hfr6.out.block w.heap.size hw0 (by simp; omega)).trans HR5.out))
                      have HBy := Lib.hid (HBx.out.trans ((Hfr6.out.trans Hfrj.out).below (B := w.heap.size) HBx.out.size (by intro q hq; simp at hq; omega)))
                      clear hs0
                      go_wp2_with ((with_reducible refine at_store 49 ?_); refine wpList_store_row rfl 49 _ _ rfl w.heap.size (rV 0 0 nilV nilV) rfl rfl 49 (rV 0 0 nilV nilV) HRR.out sizeR rfl (rV_one rfl rfl) ?_)
                      refine bodyPost_ret (res_cell2 rfl _ _ w.heap.size 49 (rV 0 0 nilV nilV) (0, 0) rfl (setRow_heap _ _ _ _ _ _ HRR.out) Tryd.underlying49 rfl sizeR) rfl ?_
                      exact rp_zero Hp.out (below_row HBy.out (Nat.le_refl _) _)
                    · have hs0b : (sj == 0) = false := beq_eq_false_iff_ne.2 hs0
                      have Hm : Hid (TRel x5 ba F D2 (.slice An acc.length cn) (.int .i64 ((k : Int) + 1)) wr) := Lib.hid ⟨k + 1, L, vt, sj, by omega, by go_num, Hat.out.skip Hch.out Hxk.out Hc.out, by rw [Hsj.out]; exact SubAt.take HF.out Hll.out Hch.out Hxk.out (by rw [← Hsj.out]; exact hs0), by omega, Hfr6.out.trans Hfrj.out, Hbj.out, own_keep Hot6.out fun q cs hq => by
                        rw [Hfrj.out.block q (lt_of_heap hq) (by
                          rintro hqb
                          simp only [List.mem_singleton] at hqb
                          subst hqb
                          rw [Hb6.out] at hq
                          cases hq)]
                        exact hq⟩
                      clear hs0
                      go_wp2_with fail
                      exact ⟨Hm.out, by simp [intOf]; omega⟩
              · have hkI : ¬ (k : Int) < D2.length := by omega
                have hkd : k = D2.length := by omega
                have hT : textsR F.says (D2.map toL) = L.map toL := Hat.out.end_ (by rw [← Hle.out]; omega)
                have hS : SubAt F (D2.map toL) F.says.length sb := by
                  have := Hsa.out
                  rwa [hkd, Hle.out] at this
                have Hp : Hid (rparse (toL s) = (⟨(F.kind : Nat), sb, L.map toL, acc⟩, 0)) := Lib.hid (by rw [HR.out]; exact rform_end HF.out (by rw [List.length_map]; exact Hle.out) HN.out hT hS)
                obtain ⟨Av, cv, rfl, _, _, _, _⟩ := own_form Hot.out
                have hw0 : w.heap.size < x5.heap.size := by omega
                have HRR := Lib.hid ((Hfr.out.block w.heap.size hw0 (by simp; omega)).trans HR5.out)
                have HBy := Lib.hid (HBx.out.trans (Hfr.out.below (B := w.heap.size) HBx.out.size (by intro q hq; simp at hq; omega)))
                have Hb7 : Hid (wr.heap[ba]? = some (.cells (rV (F.kind : Nat) sb (.slice Av L.length cv) (.slice An acc.length cn)) 49 (0, 0))) := Lib.hid Hb.out
                clear hlt hkd hT hS
                go_wp2_with (first
                  | ((with_reducible refine at_load 49 ?_); refine wpList_load_row rfl 49 _ rfl ba rfl 49 (rV (F.kind : Nat) sb (.slice Av L.length cv) (.slice An acc.length cn)) (0, 0) _ Hb7.out Tryd.underlying49 rfl sizeR ?_)
                  | ((with_reducible refine at_store 49 ?_); refine wpList_store_row rfl 49 _ _ rfl w.heap.size (rV (F.kind : Nat) sb (.slice Av L.length cv) (.slice An acc.length cn)) rfl rfl 49 (rV 0 0 nilV nilV) HRR.out sizeR rfl (rV_one rfl rfl) ?_))
                refine bodyPost_ret (res_cell2 rfl _ _ w.heap.size 49 (rV (F.kind : Nat) sb (.slice Av L.length cv) (.slice An acc.length cn)) (0, 0) rfl (setRow_heap _ _ _ _ _ _ HRR.out) Tryd.underlying49 rfl sizeR) rfl ?_
                have hk1 : ∀ (t : TypeId) (q : Nat) (cs : Array Value), t ≠ 49 → wr.heap[q]? = some (.cells cs t (0, 0)) → (wr.setRow w.heap.size (rV (F.kind : Nat) sb (.slice Av L.length cv) (.slice An acc.length cn))).heap[q]? = some (.cells cs t (0, 0)) := fun t q cs ht hq => by
                  rw [setRow_other _ _ _ _ (by
                    rintro rfl
                    rw [HRR.out] at hq
                    cases hq
                    exact ht rfl)]
                  exact hq
                have o1 := own_keep Hot.out fun q cs hq => hk1 _ q cs (by decide) hq
                have o2 := own_keep Hown.out fun q cs hq => hk1 _ q cs (by decide) (by
                  rw [Hfr.out.block q (lt_of_heap hq) (by
                    rintro hqb
                    simp only [List.mem_singleton] at hqb
                    subst hqb
                    rw [Hb5.out] at hq
                    cases hq)]
                  exact hq)
                obtain ⟨A5, c5, h5, s5⟩ := row_sl o1
                cases h5
                obtain ⟨A6, c6, h6, s6⟩ := row_sl o2
                cases h6
                exact ⟨_, by rw [Hp.out]; rfl, by rw [Hp.out]; exact ⟨Av, cv, An, cn, L, rfl, rfl, s5, s6⟩, below_row HBy.out (Nat.le_refl _) _⟩
      · have hiI : ¬ (i : Int) < 15 := by omega
        have hi15 : i = 15 := by omega
        subst hi15
        have Hp : Hid (rparse (toL s) = (zR, 7)) := Lib.hid (by
          rw [Hp0.out, ← HD.out]
          exact rfind_none Hno.out)
        have HRR := Lib.hid ((HB.out.block w.heap.size (lt_of_heap Hr2.out)).trans Hr2.out)
        have HBx := Lib.hid (HB2.out.trans (HB.out.mono HB2.out.size))
        go_wp2_with ((with_reducible refine at_store 49 ?_); refine wpList_store_row rfl 49 _ _ rfl w.heap.size (rV 0 0 nilV nilV) rfl rfl 49 (rV 0 0 nilV nilV) HRR.out sizeR rfl (rV_one rfl rfl) ?_)
        refine bodyPost_ret (res_cell2 rfl _ _ w.heap.size 49 (rV 0 0 nilV nilV) (0, 0) rfl (setRow_heap _ _ _ _ _ _ HRR.out) Tryd.underlying49 rfl sizeR) rfl ?_
        exact rp_zero Hp.out (below_row HBx.out (Nat.le_refl _) _)
end Go.Proofs.YtbmnbhammganfaaDoor
