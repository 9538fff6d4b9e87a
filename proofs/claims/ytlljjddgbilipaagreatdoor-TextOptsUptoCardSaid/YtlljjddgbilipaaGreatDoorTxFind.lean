/-
  find: the form of a line's words.
-/
import Derived.Test.YtlljjddgbilipaaGreatDoorTxFm
import Derived.Test.YtlljjddgbilipaaGreatDoorTxAbs
import Derived.Deep.MidRow
import Derived.Deep.WholeRow
namespace Go.Proofs.YtlljjddgbilipaaGreatDoor
open Go.RowKit

set_option linter.unusedSimpArgs false

set_option linter.unusedSimpArgs false

attribute [local go_sem] lt1 lt2 lt3 lt4 lt5 lt6

/-- how many words are the form's own -/
def matchF (f : Form) (l : List (List UInt8)) : Option Nat := match l with
  | [] => none
  | x :: r => if x = f.word then (if f.second = [] then some 1 else match r with
    | [] => none
    | y :: _ => if y = f.second then some 2 else none) else none
def findL (fs : List Form) (l : List (List UInt8)) : Option (Form × Nat) := match fs with
  | [] => none
  | f :: r => match matchF f l with
    | some k => some (f, k)
    | none => findL r l
theorem findL_append (a b : List Form) (l : List (List UInt8)) (h : ∀ f ∈ a, matchF f l = none) : findL (a ++ b) l = findL b l := by
  induction a with
  | nil => rfl
  | cons f a ih =>
    rw [List.cons_append, findL, h f (by simp)]
    exact ih fun g hg => h g (by simp [hg])
theorem findL_none (a : List Form) (l : List (List UInt8)) (h : ∀ f ∈ a, matchF f l = none) : findL a l = none := by
  have := findL_append a [] l h
  rw [List.append_nil] at this
  exact this
def zForm : Form := ⟨[], [], 0, 0, []⟩
def FindPost (w : World) (D : List ByteArray) (e : Ending) (w' : World) : Prop := Below w.heap.size w w' ∧ match findL FORMS (D.map toL) with
  | none => e = .returned (.tuple #[.agg (fmV zForm).toArray, .slice none 0 0, .bool false])
  | some (f, k) => ∃ A c, e = .returned (.tuple #[.agg (fmV f).toArray, .slice A (D.drop k).length c, .bool true]) ∧ Sl w' A c (D.drop k).length 1 (txs (D.drop k))
theorem infoForm : (Tryz.prog.info? 84).map (fun i => (i.zero, i.size)) = some (some (.agg (fmV zForm).toArray), 5) := by kernel_rfl
theorem sizeForm : (Tryz.prog.info? 84).map (·.size) = some 5 := by kernel_rfl
/-- an aggregate stored into the row that was made last -/
theorem wpList_store_new {P : Program} {ops : Array Oper} {rest : List Oper} {o : Oper} {a : Act} {w : World} {Q : Exit → Act → World → Prop} (hgd : o.guard = none) (ty : TypeId) (x y : Operand) (ho : o.op = .store ty x y)
    (g : Nat) (hg : g = w.heap.size) (cs Z : Array Value) (t : TypeId) (hx : a.eval x = .pointer (some ⟨g, 0, none⟩)) (hy : a.eval y = .agg cs) (hi : (P.info? ty).map (·.size) = some cs.size) (hz : Z.size = cs.size) (h1 : cs.all (·.oneCell') = true)
    (h : wpList P ops Q rest (a.put o.dst undef) (w.alloc (.cells cs t))) : wpList P ops Q (o :: rest) a (w.alloc (.cells Z t)) := by
  subst hg
  refine wpList_store_row hgd ty x y ho w.heap.size cs hx hy t Z (heap_alloc_new _ _) hi hz h1 ?_
  rw [World.setRow_alloc_new]
  exact h
theorem run_load_row {P : Program} {w : World} {ρ : Operand → Value} {d : Option Tmp} {t : TypeId} {pos : String} {af : Array Edge} {g : Option (Nat × Bool)} (ty : TypeId) (x : Operand) (b o : Nat) (hx : ρ x = .pointer (some ⟨b, o, none⟩)) (cs : List Value) {e : TypeDesc} (hc : w.rangeAt b o cs)
    (hu : P.underlying ty = some e) (hd : e.isRow = true) (hi : (P.info? ty).map (·.size) = some cs.length) : (execOp ρ { dst := d, op := .load ty x, type := t, pos := pos, after := af, guard := g }).run P w = .ok (.value (.agg cs.toArray)) w := by
  rw [x_load, hx]
  simp only [Sem.run_bind, run_loadAt_mid w b o ty cs e hc hu hd hi, Result.andThen_ok, Sem.run_pure]
theorem rangeAt_of {w : World} {b : Nat} {cs : List Value} {t : TypeId} (h : w.heap[b]? = some (.cells cs.toArray t (0, 0))) : w.rangeAt b 0 cs := fun j v hv => by
  rw [Nat.zero_add, (blk_cells h).1 j, List.getElem?_toArray]
  exact hv
theorem fmsV_at : ∀ (l : List Form) (i : Nat) (f : Form), l[i]? = some f → ∀ j v, (fmV f)[j]? = some v → (fmsV l)[i * 5 + j]? = some v
  | [], i, f, h, _, _, _ => by simp at h
  | g :: r, 0, f, h, j, v, hv => by
    simp at h
    subst h
    rw [fmsV, Nat.zero_mul, Nat.zero_add, List.getElem?_append_left (List.getElem?_eq_some_iff.1 hv).1]
    exact hv
  | g :: r, i + 1, f, h, j, v, hv => by
    simp at h
    rw [fmsV, List.getElem?_append_right (by simp [fmV]; omega), show (i + 1) * 5 + j - (fmV g).length = i * 5 + j by simp [fmV]; omega]
    exact fmsV_at r i f h j v hv
theorem fm_one (f : Form) : ∀ u ∈ fmV f, u.oneCell' = true := by
  intro u hu
  simp only [fmV, List.mem_cons, List.not_mem_nil, or_false] at hu
  rcases hu with rfl | rfl | rfl | rfl | rfl <;> rfl
theorem slice_loS (A : Option Addr) (n c l : Nat) (h : l ≤ n) (w : World) : (Instr.slice 25 (.slice A n c) (some (.int .i64 (l : Int))) none none).run Tryz.prog w = .ok (.slice (cutA A c l) (n - l) (c - l)) w := by
  have e : Tryz.prog.elem 25 = 9 := by kernel_rfl
  have ht : Tryz.prog.underlying 25 = some (.slice (Tryz.prog.elem 25)) := by rw [e]; exact Tryz.underlying25
  obtain ⟨i0, hi0, hz0, hz1, hz2⟩ := info_parts infoStr1
  rw [run_slice_l (w := w) (ht := ht) (kl := .i64) (h0 := by omega) (h1 := by omega), e]
  simp [sizeOf, typeInfo, hi0, hz1, sliced, cutA]
theorem findL_at (l : List Form) {i : Nat} {f : Form} {x : List (List UInt8)} {k : Nat} (hf : l[i]? = some f) (hn : ∀ g ∈ l.take i, matchF g x = none) (hm : matchF f x = some k) : findL l x = some (f, k) := by
  have e : l = l.take i ++ f :: l.drop (i + 1) := by
    obtain ⟨hi, he⟩ := List.getElem?_eq_some_iff.1 hf
    rw [← he, ← List.drop_eq_getElem_cons hi, List.take_append_drop]
  rw [e, findL_append _ _ _ hn, findL, hm]
theorem Sl.dropS {w : World} {A : Option Addr} {c n l : Nat} {xs : List Value} (h : Sl w A c n 1 xs) (hl : l ≤ n) : Sl w (cutA A c l) (c - l) (n - l) 1 (xs.drop l) := by
  have h0 := h.len
  have h1 := h.le
  have h2 := h.big
  refine ⟨by simp; omega, ?_, by omega, by omega, fun hn => ?_⟩
  · intro hA
    unfold cutA at hA
    split at hA
    · rename_i e
      omega
    · cases A with
      | none => have := h.nil rfl; omega
      | some a => simp at hA
  · obtain ⟨b, o, rfl, hx⟩ := h.cells (by omega)
    refine ⟨b, o + l, ?_, fun j hj => ?_⟩
    · unfold cutA
      rw [if_neg (by omega)]
      simp [Addr.add]
    · rw [Nat.add_assoc, hx (l + j) (by omega), List.getElem?_drop]
theorem sl_setRow {w wx : World} {A : Option Addr} {c n : Nat} {xs : List Value} {g m : Nat} {cs : Array Value} (h : Sl wx A c n 1 xs) (h0 : Sl w A c n 1 xs) (hg : w.heap.size ≤ g) : Sl ((wx.drewN m).drew.setRow g cs) A c n 1 xs := by
  refine ⟨h.len, h.nil, h.le, h.big, fun hn => ?_⟩
  obtain ⟨b, o, rfl, hx⟩ := h.cells hn
  refine ⟨b, o, rfl, fun j hj => ?_⟩
  obtain ⟨b2, o2, he, hx0⟩ := h0.cells hn
  cases he
  have hlt : b < w.heap.size := by
    have h3 := hx0 j hj
    have hl : j < xs.length := by rw [h.len]; exact hj
    rw [List.getElem?_eq_getElem hl] at h3
    exact World.block_lt_of_cell? w _ h3
  rw [cell_setRow_other _ _ _ _ (by show b ≠ g; omega)]
  exact hx j hj
theorem find_done {w w' : World} {D : List ByteArray} {A : Option Addr} {c k : Nat} {V : List Value} {f : Form} (hB : Below w.heap.size w w') (hs : Sl w' A c D.length 1 (txs D)) (hk : k ≤ D.length) (hV : V = fmV f) (hf : findL FORMS (D.map toL) = some (f, k)) :
    FindPost w D (.returned (.tuple #[.agg V.toArray, .slice (cutA A c k) (D.length - k) (c - k), .bool true])) w' := by
  refine ⟨hB, ?_⟩
  rw [hf]
  simp only
  refine ⟨cutA A c k, c - k, by rw [hV, List.length_drop], ?_⟩
  have := hs.dropS hk
  rw [List.length_drop]
  rw [show txs (D.drop k) = (txs D).drop k by simp [txs]]
  exact this
theorem x_slice (ρ : Operand → Value) (d : Option Tmp) (ty : TypeId) (pos : String) (af : Array Edge) (g : Option (Nat × Bool)) (t : TypeId) (x : Operand) (lo hi mx : Option Operand) : execOp ρ { dst := d, op := .slice t x lo hi mx, type := ty, pos := pos, after := af, guard := g } = (do pure (.value (← Instr.sliceAt t (ρ x) (lo.map ρ) (hi.map ρ) (mx.map ρ)))) := rfl
theorem run_sliceS {w : World} {ρ : Operand → Value} {d : Option Tmp} {t : TypeId} {pos : String} {af : Array Edge} {g : Option (Nat × Bool)} (x y : Operand) (A : Option Addr) (n c l : Nat) (hx : ρ x = .slice A n c) (hy : ρ y = .int .i64 (l : Nat)) (hl : l ≤ n) :
    (execOp ρ { dst := d, op := .slice 25 x (some y) none none, type := t, pos := pos, after := af, guard := g }).run Tryz.prog w = .ok (.value (.slice (cutA A c l) (n - l) (c - l))) w := by
  rw [x_slice, hx]
  simp only [Instr.sliceAt, Option.map_some, Option.map_none, hy, Sem.run_bind, run_underlying Tryz.underlying25, slice_loS A n c l hl, Result.andThen_ok, Sem.run_pure]
theorem below_row {B g : Nat} {w0 w : World} (hb : Below B w0 w) (hBg : B ≤ g) (cs : Array Value) : Below B w0 (w.setRow g cs) :=
  ⟨hb.os, hb.tape, hb.output, by rw [setRow_size]; exact hb.size, fun k hk => by rw [setRow_other _ _ _ _ (by omega)]; exact hb.block k hk⟩
theorem res_cell3 {P : Program} {fn : Func} {p u v : Tmp} {ty : TypeId} (h : fn.results = #[.cell p ty, .tmp u, .tmp v]) (tmps : Array Value) (w : World) (g : Nat) (t : TypeId) (cs : Array Value) (fr : Nat × Nat) {d : TypeDesc}
    (hp : tmps.getD p undef = .pointer (some ⟨g, 0, none⟩)) (hg : w.heap[g]? = some (.cells cs t fr))
    (hu : P.underlying ty = some d) (hd : (match d with | .struct _ | .array _ _ => true | _ => false) = true) (hi : (P.info? ty).map (·.size) = some cs.size) :
    (results fn tmps).run P w = .ok (.tuple #[.agg cs, tmps.getD u undef, tmps.getD v undef]) w := by
  have hp' : tmps[p]?.getD undef = .pointer (some ⟨g, 0, none⟩) := by simpa using hp
  simp [results, h, hp', asAddr, run_loadVar_row w g t ty cs fr d hg hu hd hi]
theorem res_cell2 {P : Program} {fn : Func} {p u : Tmp} {ty : TypeId} (h : fn.results = #[.cell p ty, .tmp u]) (tmps : Array Value) (w : World) (g : Nat) (t : TypeId) (cs : Array Value) (fr : Nat × Nat) {d : TypeDesc}
    (hp : tmps.getD p undef = .pointer (some ⟨g, 0, none⟩)) (hg : w.heap[g]? = some (.cells cs t fr))
    (hu : P.underlying ty = some d) (hd : (match d with | .struct _ | .array _ _ => true | _ => false) = true) (hi : (P.info? ty).map (·.size) = some cs.size) :
    (results fn tmps).run P w = .ok (.tuple #[.agg cs, tmps.getD u undef]) w := by
  have hp' : tmps[p]?.getD undef = .pointer (some ⟨g, 0, none⟩) := by simpa using hp
  simp [results, h, hp', asAddr, run_loadVar_row w g t ty cs fr d hg hu hd hi]
def FRel (D : List ByteArray) (x0 : World) (iv : Value) (wr : World) : Prop := ∃ i : Nat, i ≤ 15 ∧ iv = .int .i64 (i : Nat) ∧ (∀ f ∈ FORMS.take i, matchF f (D.map toL) = none) ∧ Below x0.heap.size x0 wr
theorem forms_own (w : World) : Calls Tryz.prog 37 #[] w fun e w' => ∃ b, e = .returned (.slice (some ⟨b, 0, none⟩) 15 15) ∧ w'.heap[b]? = some (.cells (fmsV FORMS).toArray 84 (0, 0)) ∧ Below w.heap.size w w' ∧ w.heap.size ≤ b := by
  refine (forms_any w).mono ?_
  rintro e w' ⟨rfl, rfl⟩
  exact ⟨_, rfl, heap_alloc_new _ _, (Below.refl _ _).alloc (Nat.le_refl _) _, Nat.le_refl _⟩
theorem FRel.drew {D : List ByteArray} {x0 wr : World} {iv : Value} (h : FRel D x0 iv wr) (n : Nat) : FRel D x0 iv (wr.drewN n) := by
  obtain ⟨i, h1, h2, h3, h4⟩ := h
  exact ⟨i, h1, h2, h3, below_drewN h4 n⟩
set_option maxRecDepth 100000 in
set_option maxHeartbeats 4000000 in
theorem find_any (w : World) (D : List ByteArray) (A : Option Addr) (c : Nat) (hs : Sl w A c D.length 1 (txs D)) :
    Calls Tryz.prog 32 #[.slice A D.length c] w (FindPost w D) := by
  have Hs := Lib.hid hs
  clear hs
  go_enter Tryz.func32, Tryz.ntmps32
  go_wp2_with fail
  refine (forms_own _).mono ?_
  rintro e x0 ⟨gF, rfl, hf0, hB0, hgF⟩
  have hr0 : x0.heap[w.heap.size]? = some (.cells (fmV zForm).toArray 84 (0, 0)) := (hB0.block _ (by simp)).trans (heap_alloc_new _ _)
  have hBw : Below w.heap.size w x0 := ((Below.refl w.heap.size w).alloc (Nat.le_refl _) _).trans (hB0.mono (by simp))
  have Hf0 := Lib.hid hf0
  have Hr0 := Lib.hid hr0
  have HBw := Lib.hid hBw
  have hgw : w.heap.size < x0.heap.size := lt_of_heap hr0
  clear hf0 hB0 hr0 hBw hgF
  go_wp2_with fail
  go_loopw [9] (fun iv wr => FRel D x0 iv wr) (fun iv _ => 15 - (intOf iv).toNat)
  case atStart => exact ⟨0, by omega, rfl, by simp, Below.refl _ _⟩
  case round =>
    obtain ⟨i, hi, rfl, hno, hB⟩ := hrel
    have Hno := Lib.hid hno
    have HB := Lib.hid hB
    have hgx := hB.size
    clear hno hB
    by_cases hi15 : i < 15
    · have hiI : (i : Int) < 15 := by omega
      have hlt : i < FORMS.length := hi15
      have hfi : FORMS[i]? = some FORMS[i] := List.getElem?_eq_getElem hlt
      generalize hfg : FORMS[i] = f at *
      have Hfi := Lib.hid hfi
      clear hfg hfi hlt
      have hrow : wr.rangeAt gF (i * 5) (fmV f) := fun j v hv => by
        have h2 := fmsV_at _ _ _ Hfi.out j v hv
        have h3 := HB.out.block gF (lt_of_heap Hf0.out)
        have h4 := (blk_cells (h3.trans Hf0.out)).1 (i * 5 + j)
        rw [h4, List.getElem?_toArray]
        exact h2
      have Hrow := Lib.hid hrow
      clear hrow
      obtain ⟨V, hV⟩ : ∃ V, V = fmV f := ⟨_, rfl⟩
      rw [← hV] at Hrow
      have HV := Lib.hid hV
      have H1 : Hid (V.toArray.all (·.oneCell') = true) := Lib.hid (by rw [hV]; exact all_oneCell_toArray (fm_one f))
      have H5 : Hid ((Tryz.prog.info? 84).map (·.size) = some V.length) := Lib.hid (by rw [hV]; exact sizeForm)
      have H6 : Hid ((Tryz.prog.info? 84).map (·.size) = some V.toArray.size) := Lib.hid (by rw [hV]; exact sizeForm)
      have H7 : Hid ((fmV zForm).toArray.size = V.toArray.size) := Lib.hid (by rw [hV]; rfl)
      clear hV
      go_wp2_with (first
        | (refine wpList_load_mid rfl 84 _ rfl gF (i * 5) rfl V _ Hrow.out Tryz.underlying84 rfl H5.out ?_)
        | (refine wpList_store_new rfl 84 _ _ rfl wr.heap.size rfl V.toArray (fmV zForm).toArray 84 rfl rfl H6.out H7.out H1.out ?_))
      go_frame
      have hBf : Below x0.heap.size x0 (wr.alloc (.cells V.toArray 84)) := HB.out.alloc HB.out.size _
      have hgf : (wr.alloc (.cells V.toArray 84)).heap[wr.heap.size]? = some (.cells V.toArray 84 (0, 0)) := heap_alloc_new _ _
      have hgs : (wr.alloc (.cells V.toArray 84)).heap.size = wr.heap.size + 1 := by simp
      generalize (wr.alloc (.cells V.toArray 84)) = xf at *
      obtain ⟨g, hg⟩ : ∃ g, g = wr.heap.size := ⟨_, rfl⟩
      rw [← hg] at hgf hgs ⊢
      have hgx0 : x0.heap.size ≤ g := by omega
      obtain ⟨W1, hW1⟩ : ∃ x, x = mkS f.word := ⟨_, rfl⟩
      obtain ⟨W2, hW2⟩ : ∃ x, x = mkS f.second := ⟨_, rfl⟩
      have hf0 : xf.cell? ⟨g, 0, none⟩ = some (.string W1) := ((blk_cells hgf).1 0).trans (by rw [HV.out, hW1]; rfl)
      have hf1 : xf.cell? ⟨g, 1, none⟩ = some (.string W2) := ((blk_cells hgf).1 1).trans (by rw [HV.out, hW2]; rfl)
      have HBf := Lib.hid hBf
      have Hgf := Lib.hid hgf
      have hSx := Hs.out.keep (Cells.of_below (HBw.out.trans (hBf.mono (by omega))))
      have HSx := Lib.hid hSx
      have hrx : xf.heap[w.heap.size]? = some (.cells (fmV zForm).toArray 84 (0, 0)) := (hBf.block _ hgw).trans Hr0.out
      have Hrx := Lib.hid hrx
      have HW1 := Lib.hid hW1
      have HW2 := Lib.hid hW2
      clear hBf hgf hSx hg hrx hW1 hW2 HB Hrow
      have Hnx : Hid (matchF f (D.map toL) = none → FRel D x0 (.int .i64 ((i : Int) + 1)) xf) := Lib.hid (fun hm => ⟨i + 1, by omega, by go_num, fun f' hf' => by
        rw [take_snoc Hfi.out, List.mem_append, List.mem_singleton] at hf'
        rcases hf' with hf' | rfl
        · exact Hno.out f' hf'
        · exact hm, HBf.out⟩)
      by_cases hD0 : D = []
      · have hz : ((D.length : Int) == 0) = true := by rw [hD0]; rfl
        have Hm := Lib.hid (Hnx.out (by rw [hD0]; rfl))
        clear hD0
        go_wp2_with fail
        go_quiet (fail)
        go_wp2_with fail
        exact ⟨Hm.out.drew _, by simp [intOf]; omega⟩
      have hDl : 0 < D.length := List.length_pos_iff.2 hD0
      obtain ⟨bw, ow, x1, hA, hx1, hc1⟩ := str_at (w := xf) (x := D) HSx.out hDl
      rw [Nat.add_zero] at hc1
      subst hA
      have hz : ((D.length : Int) == 0) = false := by rw [beq_eq_false_iff_ne]; omega
      have hlt0 : (0 : Int) < D.length := by omega
      have HD : Hid (∃ D1, D = x1 :: D1) := Lib.hid (by
        cases hT : D with
        | nil => exact absurd hT hD0
        | cons a r => rw [hT] at hx1; simp at hx1; exact ⟨r, by rw [hx1]⟩)
      clear hD0 hx1
      have hseq := str_eq x1 W1
      by_cases hw : ¬ toL x1 = f.word
      · have hne : ¬ x1 = W1 := fun e => hw (by rw [e, HW1.out, toL_mkS])
        rw [decide_eq_false hne] at hseq
        have Hm := Lib.hid (Hnx.out (by obtain ⟨D1, e⟩ := HD.out; rw [e]; exact if_neg hw))
        clear hw hne
        go_wp2_with fail
        go_quiet (fail)
        go_wp2_with fail
        exact ⟨Hm.out.drew _, by simp [intOf]; omega⟩
      have hw := Decidable.not_not.1 hw
      have heq : x1 = W1 := by rw [HW1.out, ← hw, mkS_toL]
      rw [decide_eq_true heq] at hseq
      have Hw := Lib.hid hw
      clear hw heq
      by_cases h2 : f.second = []
      · have e2 : W2.toList.isEmpty = true := by rw [toList_toL, HW2.out, toL_mkS, h2]; rfl
        have Hm : Hid (matchF f (D.map toL) = some 1) := Lib.hid (by obtain ⟨D1, e⟩ := HD.out; rw [e]; exact (if_pos Hw.out).trans (if_pos h2))
        clear h2 Hnx
        go_wp2_with fail
        go_quiet (fail)
        go_wp2_with fail
        obtain ⟨xq, hxq⟩ : ∃ xq, xq = xf.drewN nq := ⟨_, rfl⟩
        have hrg : xq.drew.rangeAt g 0 V := rangeAt_of (by rw [hxq]; exact Hgf.out)
        have hrr : xq.drew.heap[w.heap.size]? = some (.cells (fmV zForm).toArray 84 (0, 0)) := by rw [hxq]; exact Hrx.out
        have h1I : (1 : Int) ≤ D.length := by omega
        have h1D : 1 ≤ D.length := by omega
        have hSq : Sl (xq.drew.setRow w.heap.size V.toArray) (some ⟨bw, ow, none⟩) c D.length 1 (txs D) := by rw [hxq]; exact sl_setRow HSx.out Hs.out (Nat.le_refl _)
        have hBq : Below w.heap.size w (xq.drew.setRow w.heap.size V.toArray) := by
          rw [hxq]
          exact below_row (below_drewN (w' := xf) (HBw.out.trans (HBf.out.mono (by omega))) (nq + 1)) (Nat.le_refl _) _
        have Hfin := Lib.hid (find_done hBq hSq h1D HV.out (findL_at FORMS Hfi.out Hno.out Hm.out))
        clear hSq hBq
        rw [← hxq]
        clear hxq
        with_reducible refine g_mixx [(0, 0), (1, 1), (2, 1), (3, 3), (4, 3), (5, 3)] (fun w' => w'.rangeAt g 0 V ∧ w'.heap[w.heap.size]? = some (.cells (fmV zForm).toArray 84 (0, 0))) 0 _ rfl (by kernel_rfl) (by kernel_rfl) ?_ ?_
        · exact ⟨hrg, hrr⟩
        intro OPS HD
        simp only [mixX, nthO, consX]
        refine x_val (fun wy hy => run_load_row 84 (.tmp 6) g 0 rfl V hy.1 Tryz.underlying84 rfl H5.out) ⟨hrg, hrr⟩ ?_
        iterate 1 ((with_reducible refine x_any (v := ?_) ?_ ?_); rotate_left; (rintro _; go_simp; first | done | rfl | (constructor <;> rfl)))
        refine x_any (fun wy => run_sliceS (.tmp 28) (.const (.int .i64 1)) (some ⟨bw, ow, none⟩) D.length c 1 rfl rfl h1D) ?_
        with_reducible refine x_three ?_
        refine wpList_store_row rfl 84 _ _ rfl w.heap.size V.toArray rfl rfl 84 (fmV zForm).toArray hrr H6.out H7.out H1.out ?_
        with_reducible refine x_last ?_
        iterate 2 ((with_reducible refine x_three ?_); (with_reducible refine l_val (v := ?_) (w' := ?_) ?_ ?_); rotate_left 2; (go_simp; first | done | rfl | (constructor <;> rfl)); (with_reducible refine x_last ?_))
        with_reducible refine x_end ?_
        simp only [Act.put, List.setIfInBounds_toArray, List.set_cons_zero, List.set_cons_succ]
        have Hrow2 := Lib.hid (setRow_heap xq.drew w.heap.size _ V.toArray _ _ hrr)
        clear hrg hrr
        go_wp2_with fail
        refine bodyPost_ret (res_cell3 rfl _ _ w.heap.size 84 V.toArray (0, 0) rfl Hrow2.out Tryz.underlying84 rfl H6.out) rfl ?_
        exact Hfin.out
      have e2 : W2.toList.isEmpty = false := by
        rw [toList_toL, HW2.out, toL_mkS]
        cases hT : f.second with
        | nil => exact absurd hT h2
        | cons a r => rfl
      have H2 := Lib.hid h2
      clear h2
      by_cases hD1 : D.length = 1
      · have hg1 : ¬ (1 : Int) < D.length := by omega
        have hgd : decide ((1 : Int) < (D.length : Int)) = false := decide_eq_false hg1
        have Hm := Lib.hid (Hnx.out (by
          obtain ⟨D1, e⟩ := HD.out
          have : D1 = [] := by
            rw [e] at hD1
            exact List.eq_nil_of_length_eq_zero (by simpa using hD1)
          rw [e, this]
          exact (if_pos Hw.out).trans (if_neg H2.out)))
        clear hD1
        go_wp2_with fail
        go_quiet (fail)
        go_wp2_with fail
        go_quiet (fail)
        go_wp2_with fail
        exact ⟨Hm.out.drew _, by simp [intOf]; omega⟩
      have hg1 : (1 : Int) < D.length := by omega
      obtain ⟨bw', ow', y1, hA, hy1, hc2⟩ := str_at (w := xf) (x := D) HSx.out (i := 1) (by omega)
      cases hA
      have HD2 : Hid (∃ D1, D = x1 :: y1 :: D1) := Lib.hid (by
        obtain ⟨D1, e⟩ := HD.out
        rw [e] at hy1
        cases D1 with
        | nil => simp at hy1
        | cons a r => simp at hy1; exact ⟨r, by rw [e, hy1]⟩)
      have hseq2 := str_eq y1 W2
      clear hy1
      by_cases hy : ¬ toL y1 = f.second
      · have hne : ¬ y1 = W2 := fun e => hy (by rw [e, HW2.out, toL_mkS])
        rw [decide_eq_false hne] at hseq2
        have Hm := Lib.hid (Hnx.out (by
          obtain ⟨D1, e⟩ := HD2.out
          rw [e]
          exact (if_pos Hw.out).trans ((if_neg H2.out).trans (if_neg hy))))
        clear hy hne hD1
        go_wp2_with fail
        go_quiet (fail)
        go_wp2_with fail
        go_quiet (fail)
        go_wp2_with fail
        exact ⟨Hm.out.drew _, by simp [intOf]; omega⟩
      have hy := Decidable.not_not.1 hy
      have heq : y1 = W2 := by rw [HW2.out, ← hy, mkS_toL]
      rw [decide_eq_true heq] at hseq2
      have Hm : Hid (matchF f (D.map toL) = some 2) := Lib.hid (by
        obtain ⟨D1, e⟩ := HD2.out
        rw [e]
        exact (if_pos Hw.out).trans ((if_neg H2.out).trans (if_pos hy)))
      clear hy heq hD1 Hnx
      go_wp2_with fail
      go_quiet (fail)
      obtain ⟨n1, hn1⟩ : ∃ n1, n1 = nq := ⟨_, rfl⟩
      rw [← hn1]
      clear hn1
      go_wp2_with fail
      go_quiet (fail)
      go_wp2_with fail
      rw [World.drewN_drewN]
      obtain ⟨xq, hxq⟩ : ∃ xq, xq = xf.drewN (n1 + nq) := ⟨_, rfl⟩
      have hrg : xq.drew.rangeAt g 0 V := rangeAt_of (by rw [hxq]; exact Hgf.out)
      have hrr : xq.drew.heap[w.heap.size]? = some (.cells (fmV zForm).toArray 84 (0, 0)) := by rw [hxq]; exact Hrx.out
      have h2I : (2 : Int) ≤ D.length := by omega
      have h2D : 2 ≤ D.length := by omega
      have hSq : Sl (xq.drew.setRow w.heap.size V.toArray) (some ⟨bw, ow, none⟩) c D.length 1 (txs D) := by rw [hxq]; exact sl_setRow HSx.out Hs.out (Nat.le_refl _)
      have hBq : Below w.heap.size w (xq.drew.setRow w.heap.size V.toArray) := by
        rw [hxq]
        exact below_row (below_drewN (w' := xf) (HBw.out.trans (HBf.out.mono (by omega))) (n1 + nq + 1)) (Nat.le_refl _) _
      have Hfin := Lib.hid (find_done hBq hSq h2D HV.out (findL_at FORMS Hfi.out Hno.out Hm.out))
      clear hSq hBq
      rw [← hxq]
      clear hxq
      with_reducible refine g_mixx [(0, 0), (1, 1), (2, 1), (3, 3), (4, 3), (5, 3)] (fun w' => w'.rangeAt g 0 V ∧ w'.heap[w.heap.size]? = some (.cells (fmV zForm).toArray 84 (0, 0))) 0 _ rfl (by kernel_rfl) (by kernel_rfl) ?_ ?_
      · exact ⟨hrg, hrr⟩
      intro OPS HD
      simp only [mixX, nthO, consX]
      refine x_val (fun wy hy => run_load_row 84 (.tmp 6) g 0 rfl V hy.1 Tryz.underlying84 rfl H5.out) ⟨hrg, hrr⟩ ?_
      iterate 1 ((with_reducible refine x_any (v := ?_) ?_ ?_); rotate_left; (rintro _; go_simp; first | done | rfl | (constructor <;> rfl)))
      refine x_any (fun wy => run_sliceS (.tmp 42) (.const (.int .i64 2)) (some ⟨bw, ow, none⟩) D.length c 2 rfl rfl h2D) ?_
      with_reducible refine x_three ?_
      refine wpList_store_row rfl 84 _ _ rfl w.heap.size V.toArray rfl rfl 84 (fmV zForm).toArray hrr H6.out H7.out H1.out ?_
      with_reducible refine x_last ?_
      iterate 2 ((with_reducible refine x_three ?_); (with_reducible refine l_val (v := ?_) (w' := ?_) ?_ ?_); rotate_left 2; (go_simp; first | done | rfl | (constructor <;> rfl)); (with_reducible refine x_last ?_))
      with_reducible refine x_end ?_
      simp only [Act.put, List.setIfInBounds_toArray, List.set_cons_zero, List.set_cons_succ]
      have Hrow2 := Lib.hid (setRow_heap xq.drew w.heap.size _ V.toArray _ _ hrr)
      clear hrg hrr
      go_wp2_with fail
      refine bodyPost_ret (res_cell3 rfl _ _ w.heap.size 84 V.toArray (0, 0) rfl Hrow2.out Tryz.underlying84 rfl H6.out) rfl ?_
      exact Hfin.out
    · have hge : ¬ (i : Int) < 15 := by omega
      have hi15 : i = 15 := by omega
      subst hi15
      have hrr : wr.heap[w.heap.size]? = some (.cells (fmV zForm).toArray 84 (0, 0)) := (HB.out.block _ hgw).trans Hr0.out
      have Hfin : Hid (FindPost w D (.returned (.tuple #[.agg (fmV zForm).toArray, .slice none 0 0, .bool false])) (wr.setRow w.heap.size (fmV zForm).toArray)) := Lib.hid (by
        refine ⟨below_row (HBw.out.trans (HB.out.mono (by omega))) (Nat.le_refl _) _, ?_⟩
        rw [findL_none FORMS (D.map toL) Hno.out])
      have Hrr := Lib.hid hrr
      have H6 : Hid ((Tryz.prog.info? 84).map (·.size) = some (fmV zForm).toArray.size) := Lib.hid sizeForm
      have Hrow2 := Lib.hid (setRow_heap wr w.heap.size _ (fmV zForm).toArray _ _ hrr)
      clear hrr
      go_wp2_with (refine wpList_store_row rfl 84 _ _ rfl w.heap.size (fmV zForm).toArray rfl rfl 84 (fmV zForm).toArray Hrr.out H6.out rfl (all_oneCell_toArray (fm_one zForm)) ?_)
      refine bodyPost_ret (res_cell3 rfl _ _ w.heap.size 84 (fmV zForm).toArray (0, 0) rfl Hrow2.out Tryz.underlying84 rfl H6.out) rfl ?_
      exact Hfin.out
end Go.Proofs.YtlljjddgbilipaaGreatDoor
