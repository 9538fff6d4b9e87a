/-
  text.FormatAct: an act's line.
-/
import Derived.Test.YtlljjddgbilipaaGreatDoorTxSa
import Derived.Test.YtlljjddgbilipaaGreatDoorTxZe
import Derived.Test.YtlljjddgbilipaaGreatDoorTxLi
import Derived.Test.YtlljjddgbilipaaGreatDoorTxAbs
namespace Go.Proofs.YtlljjddgbilipaaGreatDoor
open Go.RowKit Go.Maps

set_option linter.unusedSimpArgs false

attribute [local go_sem] lt1 lt2 lt3 lt4 lt5 lt6

def matchA (f : Form) (a : ActD) : Bool := decide ((f.kind : Int) = a.kind) && !(decide (f.kind = 1) && !decide ((f.sub : Int) = a.ck))
def findA : List Form → ActD → Option Form
  | [], _ => none
  | f :: r, a => if matchA f a = true then some f else findA r a
def seconds (f : Form) : List (List UInt8) := if f.second = [] then [] else [f.second]
def less (f : Form) (a : ActD) : ActD := if f.second = [] then a else { a with ck := 0 }
def formatF (f : Form) (a : ActD) : List UInt8 × Int := if f.kind = 8 ∧ kindW a.fk = [] then ([], 7) else
  if zeroA (saidF f.fields ⟨[], true, less f a⟩).act = false then ([], 15)
  else if (saidF f.fields ⟨[], true, less f a⟩).ok = false then ([], 6)
  else limP (f.word :: seconds f ++ (saidF f.fields ⟨[], true, less f a⟩).out)
/-- an act's line -/
def formatA (a : ActD) : List UInt8 × Int := match findA FORMS a with
  | none => ([], 7)
  | some f => formatF f a
theorem findA_append {a : ActD} : ∀ {l r : List Form}, (∀ f ∈ l, matchA f a = false) → findA (l ++ r) a = findA r a
  | [], _, _ => rfl
  | f :: l, r, h => by
    rw [List.cons_append, findA, if_neg (by rw [h f (by simp)]; decide)]
    exact findA_append fun g hg => h g (by simp [hg])
theorem findA_at {l : List Form} {a : ActD} {i : Nat} {f : Form} (hf : l[i]? = some f) (hn : ∀ g ∈ l.take i, matchA g a = false) (hm : matchA f a = true) : findA l a = some f := by
  have e : l = l.take i ++ f :: l.drop (i + 1) := by
    obtain ⟨hi, he⟩ := List.getElem?_eq_some_iff.1 hf
    rw [← he, ← List.drop_eq_getElem_cons hi, List.take_append_drop]
  rw [e, findA_append hn, findA, if_pos hm]
theorem findA_none {l : List Form} {a : ActD} (hn : ∀ g ∈ l, matchA g a = false) : findA l a = none := by
  have := findA_append (r := []) hn
  rw [List.append_nil] at this
  exact this
theorem wpList_append_texts {ops : Array Oper} {rest : List Oper} {o : Oper} {a : Act} {w : World} {Q : Exit → Act → World → Prop} (hgd : o.guard = none) (s x : Operand) (ho : o.op = .call { callee := .builtin .append, args := #[s, x], argTypes := #[25, 25] })
    (base base' : Nat) (v u : Value) (D L : List ByteArray) (hs : a.eval s = v) (hown : w.ownsRow base 9 1 v D.length (txs D)) (hx : a.eval x = u) (hsrc : w.ownsRow base' 9 1 u L.length (txs L)) (hlen : D.length + L.length ≤ 1000) (hbase : base ≤ w.heap.size)
    (h : ∀ v' w' (E : List ByteArray), Hid (E = D ++ L) → w'.ownsRow base 9 1 v' E.length (txs E) → w.grownBy w' v.ownBlock → wpList Tryz.prog ops Q rest (a.put o.dst v') w') : wpList Tryz.prog ops Q (o :: rest) a w := by
  obtain ⟨i0, hi0, hz0, hz1, hz2⟩ := info_parts infoStr1
  have ec : txs (D ++ L) = txs D ++ txs L := by simp [txs]
  rcases hsrc.2 with ⟨rfl, h0⟩ | ⟨g, cap, cur, rfl, hg, hb, hn, hc, hss, hxx⟩
  · have hL : L = [] := List.eq_nil_of_length_eq_zero h0
    subst hL
    refine wpList_append_own_none hgd s x 25 ho base 9 i0 1 Tryz.underlying25 hi0 v D.length (txs D) hs hown hx ?_
    refine h v w D (Lib.hid (by rw [List.append_nil])) hown ?_
    · exact ⟨rfl, rfl, rfl, Nat.le_refl _, fun _ _ _ => rfl⟩
  · refine wpList_append_own (w := w) hgd s x 25 ho base 9 i0 (.string ByteArray.empty) 1 16 Tryz.underlying25 hi0 hz0 hz1 hz2 rfl (by omega) v D.length (txs D) hs hown ⟨g, 0, none⟩ L.length cap (txs L) hx (by rw [txs_length]; omega) (fun j u hj => ?_) (txs_one L) (by unfold maxLen; omega) (by omega) hbase ?_
    · rw [Addr.add_lit, Nat.zero_add]
      exact own_cell hsrc hj
    · intro v' w' h1 h2 _
      refine h v' w' (D ++ L) (Lib.hid rfl) ?_ h2
      rw [ec, List.length_append]
      exact h1
theorem Fr.of_below_at {w w' : World} {b : Nat} (h : Below w.heap.size w w') (_hb : b = w.heap.size) : Fr [b] w w' := Fr.of_below h _
theorem ActOk.less {a : ActD} (h : ActOk a) (f : Form) : ActOk (less f a) := by
  unfold Go.Proofs.YtlljjddgbilipaaGreatDoor.less
  split
  · exact h
  · exact ⟨h.path, h.ver, h.name, h.url, h.data, h.fdata, h.n, h.m, h.att, h.fn, h.fk⟩
theorem less_data (f : Form) (a : ActD) : (less f a).data = a.data ∧ (less f a).fdata = a.fdata := by
  unfold less
  split <;> exact ⟨rfl, rfl⟩
/-- what FormatAct hands back -/
def FaPost (w : World) (a : ActD) (e : Ending) (w' : World) : Prop := e = .returned (.tuple #[.string (mkS (formatA a).1), .int .i64 (formatA a).2]) ∧ Below w.heap.size w w'
def FaRel (a : ActD) (x0 : World) (iv : Value) (wr : World) : Prop := ∃ i : Nat, i ≤ 15 ∧ iv = .int .i64 (i : Nat) ∧ (∀ f ∈ FORMS.take i, matchA f a = false) ∧ Below x0.heap.size x0 wr
theorem FaRel.drew {a : ActD} {x0 wr : World} {iv : Value} (h : FaRel a x0 iv wr) (n : Nat) : FaRel a x0 iv (wr.drewN n) := by
  obtain ⟨i, h1, h2, h3, h4⟩ := h
  exact ⟨i, h1, h2, h3, below_drewN h4 n⟩
set_option maxRecDepth 100000 in
set_option maxHeartbeats 8000000 in
theorem formatAct_any (w : World) (hw : Lw w) (a : ActD) (ha : ActOk a) (A1 A2 : Option Addr) (c1 c2 : Nat) (h1 : Bs w A1 c1 a.data) (h2 : Bs w A2 c2 a.fdata) :
    Calls Tryz.prog 15 #[.agg (actV a (.slice A1 a.data.length c1) (.slice A2 a.fdata.length c2)).toArray] w (FaPost w a) := by
  obtain ⟨dv, hdv⟩ : ∃ dv, dv = Value.slice A1 a.data.length c1 := ⟨_, rfl⟩
  obtain ⟨fv, hfv⟩ : ∃ fv, fv = Value.slice A2 a.fdata.length c2 := ⟨_, rfl⟩
  have Hd1 : Hid (Dq w [w.heap.size] dv a.data) := Lib.hid (by rw [hdv]; exact Dq.some h1 (by simp))
  have Hd2 : Hid (Dq w [w.heap.size] fv a.fdata) := Lib.hid (by rw [hfv]; exact Dq.some h2 (by simp))
  rw [← hdv, ← hfv]
  have Hw := Lib.hid hw
  have Ha := Lib.hid ha
  have hck0 : (actV a dv fv).toArray[0]? = some (.int .i64 a.kind) := rfl
  have hck1 : (actV a dv fv).toArray[1]? = some (.int .i64 a.ck) := rfl
  have hck10 : (actV a dv fv).toArray[10]? = some (.int .i64 a.fk) := rfl
  have Hsz : Hid ((Tryz.prog.info? 57).map (·.size) = some (actV a dv fv).toArray.size) := Lib.hid sizeAct
  obtain ⟨VA, hVA⟩ : ∃ VA, VA = (actV a dv fv).toArray := ⟨_, rfl⟩
  rw [← hVA] at hck0 hck1 hck10 Hsz ⊢
  have HVA := Lib.hid hVA
  clear hw ha h1 h2 hdv hfv hVA
  go_enter Tryz.func15, Tryz.ntmps15
  go_wp2_with fail
  refine (forms_own _).mono ?_
  rintro e x0 ⟨gF, rfl, hf0, hB0, hgF⟩
  have hb0 : x0.heap[w.heap.size]? = some (.cells VA 57 (0, 0)) := (hB0.block _ (by simp)).trans (heap_alloc_new _ _)
  have hBw : Below w.heap.size w x0 := ((Below.refl w.heap.size w).alloc (Nat.le_refl _) _).trans (hB0.mono (by simp))
  obtain ⟨b, hb⟩ : ∃ b, b = w.heap.size := ⟨_, rfl⟩
  rw [← hb] at hb0 Hd1 Hd2 ⊢
  have hbx := lt_of_heap hb0
  have Hf0 := Lib.hid hf0
  have Hb0 := Lib.hid hb0
  have HBw := Lib.hid hBw
  have Hbw := Lib.hid hb
  clear hf0 hB0 hb0 hBw hgF hb
  go_wp2_with fail
  go_loopw [11] (fun iv wr => FaRel a x0 iv wr) (fun iv _ => 15 - (intOf iv).toNat)
  case atStart => exact ⟨0, by omega, rfl, by simp, Below.refl _ _⟩
  case round =>
    obtain ⟨i, hi, rfl, hno, hB⟩ := hrel
    have Hno := Lib.hid hno
    have HB := Lib.hid hB
    have hgx := hB.size
    clear hno hB
    by_cases hi15 : i < 15
    · have hiI : (i : Int) < 15 := by omega
      have hlt : i < FORMS.length := hi15
      have hfi : FORMS[i]? = some FORMS[i] := List.getElem?_eq_getElem hlt
      generalize hfg : FORMS[i] = f at *
      have Hfi := Lib.hid hfi
      clear hfg hfi hlt
      have hrow : wr.rangeAt gF (i * 5) (fmV f) := fun j v hv => by
        have h2 := fmsV_at _ _ _ Hfi.out j v hv
        have h3 := HB.out.block gF (lt_of_heap Hf0.out)
        have h4 := (blk_cells (h3.trans Hf0.out)).1 (i * 5 + j)
        rw [h4, List.getElem?_toArray]
        exact h2
      have Hrow := Lib.hid hrow
      clear hrow
      obtain ⟨V, hV⟩ : ∃ V, V = fmV f := ⟨_, rfl⟩
      rw [← hV] at Hrow
      have HV := Lib.hid hV
      have H1 : Hid (V.toArray.all (·.oneCell') = true) := Lib.hid (by rw [hV]; exact all_oneCell_toArray (fm_one f))
      have H5 : Hid ((Tryz.prog.info? 84).map (·.size) = some V.length) := Lib.hid (by rw [hV]; exact sizeForm)
      have H6 : Hid ((Tryz.prog.info? 84).map (·.size) = some V.toArray.size) := Lib.hid (by rw [hV]; exact sizeForm)
      have H7 : Hid ((fmV zForm).toArray.size = V.toArray.size) := Lib.hid (by rw [hV]; rfl)
      have hk0 : V[0]? = some (.string (mkS f.word)) := by rw [hV]; rfl
      have hk1 : V[1]? = some (.string (mkS f.second)) := by rw [hV]; rfl
      have hk2 : V[2]? = some (.int .i64 (f.kind : Nat)) := by rw [hV]; rfl
      have hk3 : V[3]? = some (.int .i64 (f.sub : Nat)) := by rw [hV]; rfl
      have hbr : wr.heap[b]? = some (.cells VA 57 (0, 0)) := (HB.out.block b hbx).trans Hb0.out
      have hbl := lt_of_heap hbr
      have hcb := (blk_cells hbr).1
      have hc0 := (hcb 0).trans hck0
      have hc1 := (hcb 1).trans hck1
      have hc10 := (hcb 10).trans hck10
      have Hbr := Lib.hid hbr
      clear hV hbr hcb
      have Hnx : Hid (matchA f a = false → FaRel a x0 (.int .i64 ((i : Int) + 1)) (wr.alloc (.cells V.toArray 84))) := Lib.hid (fun hm => ⟨i + 1, by omega, by go_num, fun f' hf' => by
        rw [take_snoc Hfi.out, List.mem_append, List.mem_singleton] at hf'
        rcases hf' with hf' | rfl
        · exact Hno.out f' hf'
        · exact hm, HB.out.alloc HB.out.size _⟩)
      by_cases hkk : (f.kind : Int) ≠ a.kind
      · --[A
        have hkb : ((f.kind : Int) != a.kind) = true := bne_iff_ne.2 hkk
        have Hm := Lib.hid (Hnx.out (by unfold matchA; rw [decide_eq_false hkk]; rfl))
        clear hkk
        go_wp2_with (first
          | ((with_reducible refine at_load 84 ?_); refine wpList_load_mid rfl 84 _ rfl gF (i * 5) rfl V _ Hrow.out Tryz.underlying84 rfl H5.out ?_)
          | ((with_reducible refine at_store 84 ?_); refine wpList_store_new rfl 84 _ _ rfl wr.heap.size rfl V.toArray (fmV zForm).toArray 84 rfl rfl H6.out H7.out H1.out ?_))
        exact ⟨Hm.out, by simp [intOf]; omega⟩
        --]A
      have hkk : (f.kind : Int) = a.kind := Decidable.not_not.1 hkk
      have hkb : ((f.kind : Int) != a.kind) = false := by rw [bne_eq_false_iff_eq]; exact hkk
      by_cases hsub : f.kind = 1 ∧ (f.sub : Int) ≠ a.ck
      · --[A
        have h1b : ((f.kind : Int) == 1) = true := by rw [hsub.1]; rfl
        have h1c : ((f.sub : Int) != a.ck) = true := bne_iff_ne.2 hsub.2
        have Hm := Lib.hid (Hnx.out (by unfold matchA; rw [decide_eq_true hkk, decide_eq_true hsub.1, decide_eq_false hsub.2]; rfl))
        clear hkk hsub
        go_wp2_with (first
          | ((with_reducible refine at_load 84 ?_); refine wpList_load_mid rfl 84 _ rfl gF (i * 5) rfl V _ Hrow.out Tryz.underlying84 rfl H5.out ?_)
          | ((with_reducible refine at_store 84 ?_); refine wpList_store_new rfl 84 _ _ rfl wr.heap.size rfl V.toArray (fmV zForm).toArray 84 rfl rfl H6.out H7.out H1.out ?_))
        exact ⟨Hm.out, by simp [intOf]; omega⟩
        --]A
      have hma : matchA f a = true := by
        unfold matchA
        rw [decide_eq_true hkk]
        by_cases h1 : f.kind = 1
        · have h2 : (f.sub : Int) = a.ck := Decidable.not_not.1 fun h => hsub ⟨h1, h⟩
          rw [decide_eq_true h1, decide_eq_true h2]
          rfl
        · rw [decide_eq_false h1]
          rfl
      have Hfa : Hid (formatA a = formatF f a) := Lib.hid (by unfold formatA; rw [findA_at Hfi.out Hno.out hma])
      have hfm : f ∈ FORMS := List.mem_of_getElem? Hfi.out
      have Hfm := Lib.hid hfm
      have hcase : ((f.kind : Int) == 1) = false ∨ (((f.kind : Int) == 1) = true ∧ ((f.sub : Int) != a.ck) = false) := by
        by_cases h1 : f.kind = 1
        · exact .inr ⟨by rw [h1]; rfl, by rw [bne_eq_false_iff_eq]; exact Decidable.not_not.1 fun h => hsub ⟨h1, h⟩⟩
        · exact .inl (by rw [beq_eq_false_iff_ne]; omega)
      clear hma hkk hsub hfm Hnx
      have hBf : Below x0.heap.size x0 (wr.alloc (.cells V.toArray 84)) := HB.out.alloc HB.out.size _
      have hgf : (wr.alloc (.cells V.toArray 84)).heap[wr.heap.size]? = some (.cells V.toArray 84 (0, 0)) := heap_alloc_new _ _
      have hbf : (wr.alloc (.cells V.toArray 84)).heap[b]? = some (.cells VA 57 (0, 0)) := (Below.heap_alloc wr _ b hbl).trans Hbr.out
      have HBf := Lib.hid hBf
      have Hgf := Lib.hid hgf
      have Hbf := Lib.hid hbf
      clear hBf hgf hbf
      rcases hcase with h1b | ⟨h1b, h1c⟩
      all_goals (
        go_wp2_with (first
          | ((with_reducible refine at_load 84 ?_); refine wpList_load_mid rfl 84 _ rfl gF (i * 5) rfl V _ Hrow.out Tryz.underlying84 rfl H5.out ?_)
          | ((with_reducible refine at_store 84 ?_); refine wpList_store_new rfl 84 _ _ rfl wr.heap.size rfl V.toArray (fmV zForm).toArray 84 rfl rfl H6.out H7.out H1.out ?_))
        generalize (wr.alloc (.cells V.toArray 84)) = xf at *
        obtain ⟨g, hg⟩ : ∃ g, g = wr.heap.size := ⟨_, rfl⟩
        rw [← hg] at Hgf hbl ⊢
        have hgx0 : x0.heap.size ≤ g := by omega
        obtain ⟨W1, hW1⟩ : ∃ x, x = mkS f.word := ⟨_, rfl⟩
        obtain ⟨W2, hW2⟩ : ∃ x, x = mkS f.second := ⟨_, rfl⟩
        rw [← hW1] at hk0
        rw [← hW2] at hk1
        have HW1 := Lib.hid hW1
        have HW2 := Lib.hid hW2
        have Hk0 := Lib.hid hk0
        have Hk1 := Lib.hid hk1
        have Hk2 := Lib.hid hk2
        have hck1' := hck1
        clear hg hW1 hW2 hk0 hk1 hk2 hk3 hc0 hc1 hc10 h1b hkb hck0 hck1
        have hq2 : xf.drew.cell? ⟨g, 2, none⟩ = some (.int .i64 (f.kind : Nat)) := ((blk_cells Hgf.out).1 2).trans (by rw [List.getElem?_toArray]; exact Hk2.out)
        have hqk : xf.drew.cell? ⟨b, 10, none⟩ = some (.int .i64 a.fk) := ((blk_cells Hbf.out).1 10).trans hck10
        by_cases h8 : f.kind ≠ 8
        · have h8b : ((f.kind : Int) == 8) = false := by rw [beq_eq_false_iff_ne]; omega
          have Hff : Hid (formatF f a = if zeroA (saidF f.fields ⟨[], true, less f a⟩).act = false then ([], 15) else if (saidF f.fields ⟨[], true, less f a⟩).ok = false then ([], 6) else limP (f.word :: seconds f ++ (saidF f.fields ⟨[], true, less f a⟩).out)) := Lib.hid (by unfold formatF; rw [if_neg (fun h => h8 h.1)])
          clear h8
          with_reducible refine g_mixx [(0, 0), (1, 0), (2, 1), (3, 1), (4, 0), (5, 0), (6, 0), (7, 0), (8, 0), (9, 0), (10, 1)] (fun w' => w'.cell? ⟨g, 2, none⟩ = some (.int .i64 (f.kind : Nat))) 3 (some 36) rfl (by kernel_rfl) (by kernel_rfl) ?_ ?_
          · exact hq2
          intro OPS HD
          simp only [mixX, nthO, consX]
          iterate 2 ((with_reducible refine x_val (v := ?_) ?_ ?_ ?_); rotate_left; (rintro _ hc; go_simp; first | done | rfl | (constructor <;> rfl)); exact hq2)
          iterate 2 ((with_reducible refine x_any (v := ?_) ?_ ?_); rotate_left; (rintro _; (try simp only [h8b]); go_simp; first | done | rfl | (constructor <;> rfl)))
          iterate 6 (with_reducible refine x_outg (c := false) HD (by go_simp) rfl hq2 ?_)
          iterate 1 ((with_reducible refine x_any (v := ?_) ?_ ?_); rotate_left; (rintro _; go_simp; first | done | rfl | (constructor <;> rfl)))
          with_reducible refine x_end ?_
          simp only [Act.put, List.setIfInBounds_toArray, List.set_cons_zero, List.set_cons_succ]
          have hgx2 := hgx
          obtain ⟨xg, hxg⟩ : ∃ xg, xg = xf.drew := ⟨_, rfl⟩
          have HBg : Hid (Below w.heap.size w xg) := Lib.hid (by rw [hxg]; exact below_drewN (w' := xf) (HBw.out.trans (HBf.out.mono HBw.out.size)) 1)
          have Hgg : Hid (xg.heap[g]? = some (.cells V.toArray 84 (0, 0))) := Lib.hid (by rw [hxg]; exact Hgf.out)
          have Hbg : Hid (xg.heap[b]? = some (.cells VA 57 (0, 0))) := Lib.hid (by rw [hxg]; exact Hbf.out)
          rw [← hxg]
          clear hxg hq2 hqk HD
          have hgl := lt_of_heap Hgg.out
          have cg0 : xg.cell? ⟨g, 0, none⟩ = some (.string W1) := ((blk_cells Hgg.out).1 0).trans (by rw [List.getElem?_toArray]; exact Hk0.out)
          have cg1 : xg.cell? ⟨g, 1, none⟩ = some (.string W2) := ((blk_cells Hgg.out).1 1).trans (by rw [List.getElem?_toArray]; exact Hk1.out)
          have hbl2 := lt_of_heap Hbg.out
          have Hown1 : Hid ((xg.alloc (.cells #[.string W1] 9)).ownsRow w.heap.size 9 1 (.slice (some ⟨xg.heap.size, 0, none⟩) [W1].length 1) [W1].length (txs [W1])) := Lib.hid (own_of_block (xs := txs [W1]) HBg.out.size (heap_alloc_new xg _) (by simp [txs, maxLen]))
          have hB1 : Below w.heap.size w (xg.alloc (.cells #[.string W1] 9)) := HBg.out.alloc HBg.out.size _
          have hg1 : (xg.alloc (.cells #[.string W1] 9)).heap[g]? = some (.cells V.toArray 84 (0, 0)) := (Below.heap_alloc _ _ _ hgl).trans Hgg.out
          have hb1 : (xg.alloc (.cells #[.string W1] 9)).heap[b]? = some (.cells VA 57 (0, 0)) := (Below.heap_alloc _ _ _ hbl2).trans Hbg.out
          by_cases hs2 : f.second = []
          · have e2 : W2.toList.isEmpty = true := by rw [toList_toL, HW2.out, toL_mkS, hs2]; rfl
            have Hlf : Hid (less f a = a ∧ seconds f = []) := Lib.hid ⟨if_pos hs2, if_pos hs2⟩
            clear hs2
            have Hg1 := Lib.hid hg1
            have HB1 := Lib.hid hB1
            rw [HVA.out, show actV a dv fv = actV (less f a) dv fv by rw [Hlf.out.1]] at hb1
            have Hb1 := Lib.hid hb1
            clear hg1 hB1 hb1
            go_wp2_with ((with_reducible refine at_load 84 ?_); refine wpList_load_row rfl 84 _ rfl g rfl 84 V.toArray (0, 0) _ Hg1.out Tryz.underlying84 rfl H6.out ?_)
            have hs3 := said_any (xg.alloc (.cells #[.string W1] 9)) f Hfm.out b (less f a) dv fv Hb1.out (by rw [(less_data f a).1]; exact Hd1.out.fr (Fr.of_below_at HB1.out Hbw.out)) (by rw [(less_data f a).2]; exact Hd2.out.fr (Fr.of_below_at HB1.out Hbw.out)) (Ha.out.less f) (fun wy hwy => Hw.out.below (HB1.out.trans (hwy.below HB1.out.size (by rw [Hbw.out]; simp))))
            generalize (xg.alloc (.cells #[.string W1] 9)) = xh at *
            rw [← HV.out] at hs3
            refine hs3.mono ?_
            clear hs3
            obtain ⟨D, hD⟩ : ∃ D, D = [W1] := ⟨_, rfl⟩
            have HDl : Hid (D.map toL = f.word :: seconds f) := Lib.hid (by rw [hD, Hlf.out.2, HW1.out]; rfl)
            have hDn : D.length ≤ 2 := by rw [hD]; simp
            replace Hown1 : Hid (xh.ownsRow w.heap.size 9 1 (.slice (some ⟨xg.heap.size, 0, none⟩) 1 1) D.length (txs D)) := Lib.hid (by rw [hD]; exact Hown1.out)
            clear hD
            rintro e xs ⟨L, v, dv2, fv2, rfl, hL5, hLo, hownL, hfrs, hok, hbs, hd1, hd2⟩
            have hBs : Below w.heap.size w xs := HB1.out.trans (hfrs.below HB1.out.size (by rw [Hbw.out]; simp))
            have HD5 : Hid (xs.ownsRow w.heap.size 9 1 (.slice (some ⟨xg.heap.size, 0, none⟩) 1 1) D.length (txs D)) := Lib.hid (own_keep Hown1.out fun k cs hk => (hfrs.block k (lt_of_heap hk) (by
              rintro hkb
              simp only [List.mem_singleton] at hkb
              subst hkb
              rw [Hb1.out] at hk
              cases hk)).trans hk)
            obtain ⟨s, hs⟩ : ∃ s, s = saidF f.fields ⟨[], true, less f a⟩ := ⟨_, rfl⟩
            rw [← hs] at hLo hok hbs hd1 hd2 Hff ⊢
            have Hlen : Hid (∀ x ∈ s.out, x.length ≤ 7000000) := Lib.hid (by rw [hs]; exact saidF_len _ _ (Ha.out.less f) (by simp))
            obtain ⟨A3, c3, hdv3, _⟩ := hd1.form
            obtain ⟨A4, c4, hfv4, _⟩ := hd2.form
            subst hdv3
            subst hfv4
            obtain ⟨A5, c5, hv5, _⟩ := own_form hownL
            subst hv5
            have Hbs := Lib.hid hbs
            have H1s := Lib.hid hBs
            have Hd1s := Lib.hid hd1
            have Hd2s := Lib.hid hd2
            have HLo := Lib.hid hLo
            have HownL := Lib.hid hownL
            have Hsza : Hid ((Tryz.prog.info? 57).map (·.size) = some (actV s.act (.slice A3 s.act.data.length c3) (.slice A4 s.act.fdata.length c4)).toArray.size) := Lib.hid sizeAct
            clear hs hBs hbs hd1 hd2 hLo hownL hok
            go_wp2_with ((with_reducible refine at_load 57 ?_); refine wpList_load_row rfl 57 _ rfl b rfl 57 (actV s.act (.slice A3 s.act.data.length c3) (.slice A4 s.act.fdata.length c4)).toArray (0, 0) _ Hbs.out Tryz.underlying57 rfl Hsza.out ?_)
            refine (zero_any _ s.act A3 A4 c3 c4).mono ?_
            rintro e xz ⟨rfl, hBz⟩
            have HBz := Lib.hid (H1s.out.trans (hBz.mono H1s.out.size))
            cases hz : zeroA s.act with
            | false =>
              have Hp : Hid (formatA a = ([], 15)) := Lib.hid (by rw [Hfa.out, Hff.out, if_pos hz])
              clear hz hBz
              go_wp2_with fail
              go_ret2
              exact ⟨by rw [Hp.out]; rfl, HBz.out⟩
            | true =>
              rw [if_neg (by rw [hz]; decide)] at Hff
              cases hk : s.ok with
              | false =>
                have Hp : Hid (formatA a = ([], 6)) := Lib.hid (by rw [Hfa.out, Hff.out, if_pos hk])
                clear hz hBz hk
                go_wp2_with fail
                go_ret2
                exact ⟨by rw [Hp.out]; rfl, HBz.out⟩
              | true =>
                have Hp : Hid (formatA a = limP ((D ++ L).map toL)) := Lib.hid (by rw [Hfa.out, Hff.out, if_neg (by rw [hk]; decide), List.map_append, HDl.out, HLo.out])
                have HoD : Hid (xz.ownsRow w.heap.size 9 1 (.slice (some ⟨xg.heap.size, 0, none⟩) 1 1) D.length (txs D)) := Lib.hid (own_keep HD5.out fun k cs hkk => (hBz.block k (lt_of_heap hkk)).trans hkk)
                have HoL := Lib.hid (own_keep HownL.out fun k cs hkk => (hBz.block k (lt_of_heap hkk)).trans hkk)
                have Hx : Hid (∀ x ∈ (D ++ L).map toL, x.length ≤ 7000000) := Lib.hid (by
                  intro x hx
                  rw [List.map_append, HDl.out, HLo.out, List.mem_append] at hx
                  rcases hx with hx | hx
                  · have h9 := forms_len Hfm.out
                    unfold seconds at hx
                    simp only [List.mem_cons] at hx
                    rcases hx with rfl | hx
                    · omega
                    · split at hx
                      · simp at hx
                      · simp at hx
                        rw [hx]
                        omega
                  · exact Hlen.out x hx)
                clear hz hBz hk
                go_wp2_with (first | (at_builtin; refine wpList_append_texts rfl _ _ rfl w.heap.size _ (.slice (some ⟨xg.heap.size, 0, none⟩) 1 1) _ D L rfl HoD.out rfl HoL.out (by omega) HBz.out.size ?_))
                intro v6 x6 DL hDL hown6 hgrow6
                rw [← hDL.out] at Hp Hx
                obtain ⟨A6, c6, rfl, hS6⟩ := row_sl hown6
                have HB6 := Lib.hid (HBz.out.grown hgrow6 HBz.out.size (fun k hk => (own_blk HoD.out k hk).1))
                have hDL2 : DL.length ≤ 10 := by rw [hDL.out, List.length_append]; omega
                have hjl : (joinB (DL.map toL)).length ≤ 140737488355328 := by
                  have h7 := joinB_len 7000000 _ Hx.out
                  rw [List.length_map] at h7
                  have h8 : DL.length * (7000000 + 1) ≤ 10 * (7000000 + 1) := Nat.mul_le_mul_right _ hDL2
                  omega
                have Hli := Lib.hid (limited_any x6 DL A6 c6 hS6 hjl (by omega))
                clear hown6 hgrow6 hS6 hjl
                go_wp2_with fail
                refine Hli.out.mono ?_
                rintro e x7 ⟨rfl, hB7⟩
                have HB7 := Lib.hid (HB6.out.trans (hB7.mono HB6.out.size))
                clear hB7 Hli
                go_wp2_with fail
                go_ret2
                exact ⟨by rw [Hp.out]; rfl, HB7.out⟩
          · have e2 : W2.toList.isEmpty = false := by
              rw [toList_toL, HW2.out, toL_mkS]
              cases hT : f.second with
              | nil => exact absurd hT hs2
              | cons _ _ => rfl
            have Hlf : Hid (less f a = { a with ck := 0 } ∧ seconds f = [f.second]) := Lib.hid ⟨if_neg hs2, if_neg hs2⟩
            clear hs2
            have Hg1 := Lib.hid hg1
            have HB1 := Lib.hid hB1
            have Hb1 := Lib.hid hb1
            have Ho1 := Lib.hid (Hown1.out.alloc (.cells #[.string W2] 9))
            have Ho2 : Hid (((xg.alloc (.cells #[.string W1] 9)).alloc (.cells #[.string W2] 9)).ownsRow 0 9 1 (.slice (some ⟨xg.heap.size + 1, 0, none⟩) [W2].length 1) [W2].length (txs [W2])) := Lib.hid (own_of_block (xs := txs [W2]) (Nat.zero_le _) (by rw [heap_alloc_if, if_pos (by simp)]; rfl) (by simp [txs, maxLen]))
            clear hg1 hB1 hb1
            go_wp2_with (first | (at_builtin; refine wpList_append_texts rfl _ _ rfl w.heap.size 0 (.slice (some ⟨xg.heap.size, 0, none⟩) 1 1) (.slice (some ⟨xg.heap.size + 1, 0, none⟩) 1 1) [W1] [W2] rfl Ho1.out rfl Ho2.out (by simp) (by simp; have := HBg.out.size; omega) ?_))
            intro v6 x6 D hDD hown6 hgrow6
            obtain ⟨Aw, cw, hv6, _⟩ := row_sl hown6
            subst hv6
            have hDn : D.length ≤ 2 := by rw [hDD.out]; simp
            have hkeep : ∀ k, k < xg.heap.size → x6.heap[k]? = xg.heap[k]? := fun k hk => (hgrow6.block k (by simp; omega) (by simp [Value.ownBlock]; omega)).trans ((Below.heap_alloc _ _ _ (by simp; omega)).trans (Below.heap_alloc _ _ _ hk))
            have hb6 := (hkeep b hbl2).trans Hbg.out
            have hg6 := (hkeep g hgl).trans Hgg.out
            have hB6 : Below w.heap.size w x6 := HBg.out.trans ⟨hgrow6.os, hgrow6.tape, hgrow6.output, by have := hgrow6.size; simp at this; omega, fun k hk => hkeep k (Nat.lt_of_lt_of_le hk HBg.out.size)⟩
            have hc6 := ((blk_cells hb6).1 1).trans hck1'
            have hz6 := (blk_cells hb6).2.1 1
            have Hg1 : Hid ((x6.setCell ⟨b, 1, none⟩ (.int .i64 0)).heap[g]? = some (.cells V.toArray 84 (0, 0))) := Lib.hid (((Fr.setCell [b] x6 ⟨b, 1, none⟩ _ (by simp)).block g (lt_of_heap hg6) (by simp; omega)).trans hg6)
            have HB1 : Hid (Below w.heap.size w (x6.setCell ⟨b, 1, none⟩ (.int .i64 0))) := Lib.hid (hB6.trans ((Fr.setCell [b] x6 ⟨b, 1, none⟩ _ (by simp)).below hB6.size (by rw [Hbw.out]; simp)))
            have Hb1 : Hid ((x6.setCell ⟨b, 1, none⟩ (.int .i64 0)).heap[b]? = some (.cells (actV (less f a) dv fv).toArray 57 (0, 0))) := Lib.hid (by rw [heap_setCell_at hb6, HVA.out, Hlf.out.1]; simp [actV])
            have Hown1 : Hid ((x6.setCell ⟨b, 1, none⟩ (.int .i64 0)).ownsRow w.heap.size 9 1 (.slice Aw D.length cw) D.length (txs D)) := Lib.hid (own_keep hown6 fun k cs hk => by
              rw [(Fr.setCell [b] x6 ⟨b, 1, none⟩ _ (by simp)).block k (lt_of_heap hk) (by
                rintro hkb
                simp only [List.mem_singleton] at hkb
                subst hkb
                rw [hb6] at hk
                cases hk)]
              exact hk)
            have HDl : Hid (D.map toL = f.word :: seconds f) := Lib.hid (by rw [hDD.out, Hlf.out.2, HW1.out, HW2.out]; rfl)
            clear hown6 hgrow6 hkeep hb6 hg6 hB6 Ho1 Ho2
            go_wp2_with ((with_reducible refine at_load 84 ?_); refine wpList_load_row rfl 84 _ rfl g rfl 84 V.toArray (0, 0) _ Hg1.out Tryz.underlying84 rfl H6.out ?_)
            have hs3 := said_any (x6.setCell ⟨b, 1, none⟩ (.int .i64 0)) f Hfm.out b (less f a) dv fv Hb1.out (by rw [(less_data f a).1]; exact Hd1.out.fr (Fr.of_below_at HB1.out Hbw.out)) (by rw [(less_data f a).2]; exact Hd2.out.fr (Fr.of_below_at HB1.out Hbw.out)) (Ha.out.less f) (fun wy hwy => Hw.out.below (HB1.out.trans (hwy.below HB1.out.size (by rw [Hbw.out]; simp))))
            generalize (x6.setCell ⟨b, 1, none⟩ (.int .i64 0)) = xh at *
            rw [← HV.out] at hs3
            refine hs3.mono ?_
            clear hs3
            rintro e xs ⟨L, v, dv2, fv2, rfl, hL5, hLo, hownL, hfrs, hok, hbs, hd1, hd2⟩
            have hBs : Below w.heap.size w xs := HB1.out.trans (hfrs.below HB1.out.size (by rw [Hbw.out]; simp))
            have HD5 : Hid (xs.ownsRow w.heap.size 9 1 (.slice Aw D.length cw) D.length (txs D)) := Lib.hid (own_keep Hown1.out fun k cs hk => (hfrs.block k (lt_of_heap hk) (by
              rintro hkb
              simp only [List.mem_singleton] at hkb
              subst hkb
              rw [Hb1.out] at hk
              cases hk)).trans hk)
            obtain ⟨s, hs⟩ : ∃ s, s = saidF f.fields ⟨[], true, less f a⟩ := ⟨_, rfl⟩
            rw [← hs] at hLo hok hbs hd1 hd2 Hff ⊢
            have Hlen : Hid (∀ x ∈ s.out, x.length ≤ 7000000) := Lib.hid (by rw [hs]; exact saidF_len _ _ (Ha.out.less f) (by simp))
            obtain ⟨A3, c3, hdv3, _⟩ := hd1.form
            obtain ⟨A4, c4, hfv4, _⟩ := hd2.form
            subst hdv3
            subst hfv4
            obtain ⟨A5, c5, hv5, _⟩ := own_form hownL
            subst hv5
            have Hbs := Lib.hid hbs
            have H1s := Lib.hid hBs
            have Hd1s := Lib.hid hd1
            have Hd2s := Lib.hid hd2
            have HLo := Lib.hid hLo
            have HownL := Lib.hid hownL
            have Hsza : Hid ((Tryz.prog.info? 57).map (·.size) = some (actV s.act (.slice A3 s.act.data.length c3) (.slice A4 s.act.fdata.length c4)).toArray.size) := Lib.hid sizeAct
            clear hs hBs hbs hd1 hd2 hLo hownL hok
            go_wp2_with ((with_reducible refine at_load 57 ?_); refine wpList_load_row rfl 57 _ rfl b rfl 57 (actV s.act (.slice A3 s.act.data.length c3) (.slice A4 s.act.fdata.length c4)).toArray (0, 0) _ Hbs.out Tryz.underlying57 rfl Hsza.out ?_)
            refine (zero_any _ s.act A3 A4 c3 c4).mono ?_
            rintro e xz ⟨rfl, hBz⟩
            have HBz := Lib.hid (H1s.out.trans (hBz.mono H1s.out.size))
            cases hz : zeroA s.act with
            | false =>
              have Hp : Hid (formatA a = ([], 15)) := Lib.hid (by rw [Hfa.out, Hff.out, if_pos hz])
              clear hz hBz
              go_wp2_with fail
              go_ret2
              exact ⟨by rw [Hp.out]; rfl, HBz.out⟩
            | true =>
              rw [if_neg (by rw [hz]; decide)] at Hff
              cases hk : s.ok with
              | false =>
                have Hp : Hid (formatA a = ([], 6)) := Lib.hid (by rw [Hfa.out, Hff.out, if_pos hk])
                clear hz hBz hk
                go_wp2_with fail
                go_ret2
                exact ⟨by rw [Hp.out]; rfl, HBz.out⟩
              | true =>
                have Hp : Hid (formatA a = limP ((D ++ L).map toL)) := Lib.hid (by rw [Hfa.out, Hff.out, if_neg (by rw [hk]; decide), List.map_append, HDl.out, HLo.out])
                have HoD : Hid (xz.ownsRow w.heap.size 9 1 (.slice Aw D.length cw) D.length (txs D)) := Lib.hid (own_keep HD5.out fun k cs hkk => (hBz.block k (lt_of_heap hkk)).trans hkk)
                have HoL := Lib.hid (own_keep HownL.out fun k cs hkk => (hBz.block k (lt_of_heap hkk)).trans hkk)
                have Hx : Hid (∀ x ∈ (D ++ L).map toL, x.length ≤ 7000000) := Lib.hid (by
                  intro x hx
                  rw [List.map_append, HDl.out, HLo.out, List.mem_append] at hx
                  rcases hx with hx | hx
                  · have h9 := forms_len Hfm.out
                    unfold seconds at hx
                    simp only [List.mem_cons] at hx
                    rcases hx with rfl | hx
                    · omega
                    · split at hx
                      · simp at hx
                      · simp at hx
                        rw [hx]
                        omega
                  · exact Hlen.out x hx)
                clear hz hBz hk
                go_wp2_with (first | (at_builtin; refine wpList_append_texts rfl _ _ rfl w.heap.size _ (.slice Aw D.length cw) _ D L rfl HoD.out rfl HoL.out (by omega) HBz.out.size ?_))
                intro v6 x6 DL hDL hown6 hgrow6
                rw [← hDL.out] at Hp Hx
                obtain ⟨A6, c6, rfl, hS6⟩ := row_sl hown6
                have HB6 := Lib.hid (HBz.out.grown hgrow6 HBz.out.size (fun k hk => (own_blk HoD.out k hk).1))
                have hDL2 : DL.length ≤ 10 := by rw [hDL.out, List.length_append]; omega
                have hjl : (joinB (DL.map toL)).length ≤ 140737488355328 := by
                  have h7 := joinB_len 7000000 _ Hx.out
                  rw [List.length_map] at h7
                  have h8 : DL.length * (7000000 + 1) ≤ 10 * (7000000 + 1) := Nat.mul_le_mul_right _ hDL2
                  omega
                have Hli := Lib.hid (limited_any x6 DL A6 c6 hS6 hjl (by omega))
                clear hown6 hgrow6 hS6 hjl
                go_wp2_with fail
                refine Hli.out.mono ?_
                rintro e x7 ⟨rfl, hB7⟩
                have HB7 := Lib.hid (HB6.out.trans (hB7.mono HB6.out.size))
                clear hB7 Hli
                go_wp2_with fail
                go_ret2
                exact ⟨by rw [Hp.out]; rfl, HB7.out⟩
        · have h8 := Decidable.not_not.1 h8
          have h8b : ((f.kind : Int) == 8) = true := by rw [h8]; rfl
          with_reducible refine g_mixx [(0, 0), (1, 0), (2, 1), (3, 1), (5, 0), (6, 0), (7, 0), (4, 2), (8, 3), (9, 3), (10, 3)] (fun w' => w'.cell? ⟨g, 2, none⟩ = some (.int .i64 (f.kind : Nat)) ∧ w'.cell? ⟨b, 10, none⟩ = some (.int .i64 a.fk)) 3 (some 36) rfl (by kernel_rfl) (by kernel_rfl) ?_ ?_
          · exact ⟨hq2, hqk⟩
          intro OPS HD
          simp only [mixX, nthO, consX]
          iterate 2 ((with_reducible refine x_val (v := ?_) ?_ ?_ ?_); rotate_left; (rintro _ ⟨hc, hd⟩; go_simp; first | done | rfl | (constructor <;> rfl)); exact ⟨hq2, hqk⟩)
          iterate 2 ((with_reducible refine x_any (v := ?_) ?_ ?_); rotate_left; (rintro _; (try simp only [h8b]); go_simp; first | done | rfl | (constructor <;> rfl)))
          iterate 3 ((with_reducible refine x_valg (v := ?_) HD ?_ ?_ ?_ ?_); rotate_left; go_simp; (rintro _ ⟨hc, hd⟩; go_simp; first | done | rfl | (constructor <;> rfl)); exact ⟨hq2, hqk⟩)
          with_reducible refine x_one ?_
          refine l_onceg HD (by go_simp) ?_
          refine l_call ?_ ((faults_any _).mono ?_)
          · go_simp
          rintro e xg ⟨mb, rfl, hmap, hmb, hB4⟩
          refine ⟨_, rfl, ?_⟩
          have hg4 : xg.heap[g]? = some (.cells V.toArray 84 (0, 0)) := (hB4.block g (lt_of_heap Hgf.out)).trans Hgf.out
          have hb4 : xg.heap[b]? = some (.cells VA 57 (0, 0)) := (hB4.block b (lt_of_heap Hbf.out)).trans Hbf.out
          have hBw4 : Below w.heap.size w xg := (below_drewN (w' := xf) (HBw.out.trans (HBf.out.mono HBw.out.size)) 1).trans (hB4.mono (Nat.le_trans HBw.out.size HBf.out.size))
          with_reducible refine x_keep ?_ ?_
          · exact ⟨((blk_cells hg4).1 2).trans (by rw [List.getElem?_toArray]; exact Hk2.out), ((blk_cells hb4).1 10).trans hck10⟩
          obtain ⟨W, hlk, hW⟩ := lookup_word hmap (k := a.fk) Ha.out.fk
          have HBg := Lib.hid hBw4
          have Hgg := Lib.hid hg4
          have Hbg := Lib.hid hb4
          have hgx2 := hgx
          by_cases hwz : kindW a.fk = []
          · have ew : W.toList.isEmpty = true := by rw [toList_toL, hW, hwz]; rfl
            have Hp : Hid (formatA a = ([], 7)) := Lib.hid (by rw [Hfa.out]; unfold formatF; rw [if_pos ⟨h8, hwz⟩])
            clear hwz hW hg4 hb4 hBw4 h8
            iterate 2 ((with_reducible refine x_three ?_); (refine l_onceg HD (by go_simp) ?_); (with_reducible refine l_val (v := ?_) (w' := ?_) ?_ ?_); rotate_left 2; (go_simp; first | done | rfl | (constructor <;> rfl)); (with_reducible refine x_last ?_))
            iterate 1 ((with_reducible refine x_three ?_); (with_reducible refine l_val (v := ?_) (w' := ?_) ?_ ?_); rotate_left 2; (go_simp; first | done | rfl | (constructor <;> rfl)); (with_reducible refine x_last ?_))
            with_reducible refine x_end ?_
            simp only [Act.put, List.setIfInBounds_toArray, List.set_cons_zero, List.set_cons_succ]
            clear hlk hmap hmb hB4 hq2 hqk HD
            go_wp2_with fail
            go_ret2
            exact ⟨by rw [Hp.out]; rfl, HBg.out⟩
          have ew : W.toList.isEmpty = false := by
            rw [toList_toL, hW]
            cases hT : kindW a.fk with
            | nil => exact absurd hT hwz
            | cons _ _ => rfl
          have Hff : Hid (formatF f a = if zeroA (saidF f.fields ⟨[], true, less f a⟩).act = false then ([], 15) else if (saidF f.fields ⟨[], true, less f a⟩).ok = false then ([], 6) else limP (f.word :: seconds f ++ (saidF f.fields ⟨[], true, less f a⟩).out)) := Lib.hid (by unfold formatF; rw [if_neg (fun h => hwz h.2)])
          clear hwz hW hg4 hb4 hBw4 h8
          iterate 2 ((with_reducible refine x_three ?_); (refine l_onceg HD (by go_simp) ?_); (with_reducible refine l_val (v := ?_) (w' := ?_) ?_ ?_); rotate_left 2; (go_simp; first | done | rfl | (constructor <;> rfl)); (with_reducible refine x_last ?_))
          iterate 1 ((with_reducible refine x_three ?_); (with_reducible refine l_val (v := ?_) (w' := ?_) ?_ ?_); rotate_left 2; (go_simp; first | done | rfl | (constructor <;> rfl)); (with_reducible refine x_last ?_))
          with_reducible refine x_end ?_
          simp only [Act.put, List.setIfInBounds_toArray, List.set_cons_zero, List.set_cons_succ]
          clear hlk hmap hmb hB4 hq2 hqk HD
          have hgl := lt_of_heap Hgg.out
          have cg0 : xg.cell? ⟨g, 0, none⟩ = some (.string W1) := ((blk_cells Hgg.out).1 0).trans (by rw [List.getElem?_toArray]; exact Hk0.out)
          have cg1 : xg.cell? ⟨g, 1, none⟩ = some (.string W2) := ((blk_cells Hgg.out).1 1).trans (by rw [List.getElem?_toArray]; exact Hk1.out)
          have hbl2 := lt_of_heap Hbg.out
          have Hown1 : Hid ((xg.alloc (.cells #[.string W1] 9)).ownsRow w.heap.size 9 1 (.slice (some ⟨xg.heap.size, 0, none⟩) [W1].length 1) [W1].length (txs [W1])) := Lib.hid (own_of_block (xs := txs [W1]) HBg.out.size (heap_alloc_new xg _) (by simp [txs, maxLen]))
          have hB1 : Below w.heap.size w (xg.alloc (.cells #[.string W1] 9)) := HBg.out.alloc HBg.out.size _
          have hg1 : (xg.alloc (.cells #[.string W1] 9)).heap[g]? = some (.cells V.toArray 84 (0, 0)) := (Below.heap_alloc _ _ _ hgl).trans Hgg.out
          have hb1 : (xg.alloc (.cells #[.string W1] 9)).heap[b]? = some (.cells VA 57 (0, 0)) := (Below.heap_alloc _ _ _ hbl2).trans Hbg.out
          by_cases hs2 : f.second = []
          · have e2 : W2.toList.isEmpty = true := by rw [toList_toL, HW2.out, toL_mkS, hs2]; rfl
            have Hlf : Hid (less f a = a ∧ seconds f = []) := Lib.hid ⟨if_pos hs2, if_pos hs2⟩
            clear hs2
            have Hg1 := Lib.hid hg1
            have HB1 := Lib.hid hB1
            rw [HVA.out, show actV a dv fv = actV (less f a) dv fv by rw [Hlf.out.1]] at hb1
            have Hb1 := Lib.hid hb1
            clear hg1 hB1 hb1
            go_wp2_with ((with_reducible refine at_load 84 ?_); refine wpList_load_row rfl 84 _ rfl g rfl 84 V.toArray (0, 0) _ Hg1.out Tryz.underlying84 rfl H6.out ?_)
            have hs3 := said_any (xg.alloc (.cells #[.string W1] 9)) f Hfm.out b (less f a) dv fv Hb1.out (by rw [(less_data f a).1]; exact Hd1.out.fr (Fr.of_below_at HB1.out Hbw.out)) (by rw [(less_data f a).2]; exact Hd2.out.fr (Fr.of_below_at HB1.out Hbw.out)) (Ha.out.less f) (fun wy hwy => Hw.out.below (HB1.out.trans (hwy.below HB1.out.size (by rw [Hbw.out]; simp))))
            generalize (xg.alloc (.cells #[.string W1] 9)) = xh at *
            rw [← HV.out] at hs3
            refine hs3.mono ?_
            clear hs3
            obtain ⟨D, hD⟩ : ∃ D, D = [W1] := ⟨_, rfl⟩
            have HDl : Hid (D.map toL = f.word :: seconds f) := Lib.hid (by rw [hD, Hlf.out.2, HW1.out]; rfl)
            have hDn : D.length ≤ 2 := by rw [hD]; simp
            replace Hown1 : Hid (xh.ownsRow w.heap.size 9 1 (.slice (some ⟨xg.heap.size, 0, none⟩) 1 1) D.length (txs D)) := Lib.hid (by rw [hD]; exact Hown1.out)
            clear hD
            rintro e xs ⟨L, v, dv2, fv2, rfl, hL5, hLo, hownL, hfrs, hok, hbs, hd1, hd2⟩
            have hBs : Below w.heap.size w xs := HB1.out.trans (hfrs.below HB1.out.size (by rw [Hbw.out]; simp))
            have HD5 : Hid (xs.ownsRow w.heap.size 9 1 (.slice (some ⟨xg.heap.size, 0, none⟩) 1 1) D.length (txs D)) := Lib.hid (own_keep Hown1.out fun k cs hk => (hfrs.block k (lt_of_heap hk) (by
              rintro hkb
              simp only [List.mem_singleton] at hkb
              subst hkb
              rw [Hb1.out] at hk
              cases hk)).trans hk)
            obtain ⟨s, hs⟩ : ∃ s, s = saidF f.fields ⟨[], true, less f a⟩ := ⟨_, rfl⟩
            rw [← hs] at hLo hok hbs hd1 hd2 Hff ⊢
            have Hlen : Hid (∀ x ∈ s.out, x.length ≤ 7000000) := Lib.hid (by rw [hs]; exact saidF_len _ _ (Ha.out.less f) (by simp))
            obtain ⟨A3, c3, hdv3, _⟩ := hd1.form
            obtain ⟨A4, c4, hfv4, _⟩ := hd2.form
            subst hdv3
            subst hfv4
            obtain ⟨A5, c5, hv5, _⟩ := own_form hownL
            subst hv5
            have Hbs := Lib.hid hbs
            have H1s := Lib.hid hBs
            have Hd1s := Lib.hid hd1
            have Hd2s := Lib.hid hd2
            have HLo := Lib.hid hLo
            have HownL := Lib.hid hownL
            have Hsza : Hid ((Tryz.prog.info? 57).map (·.size) = some (actV s.act (.slice A3 s.act.data.length c3) (.slice A4 s.act.fdata.length c4)).toArray.size) := Lib.hid sizeAct
            clear hs hBs hbs hd1 hd2 hLo hownL hok
            go_wp2_with ((with_reducible refine at_load 57 ?_); refine wpList_load_row rfl 57 _ rfl b rfl 57 (actV s.act (.slice A3 s.act.data.length c3) (.slice A4 s.act.fdata.length c4)).toArray (0, 0) _ Hbs.out Tryz.underlying57 rfl Hsza.out ?_)
            refine (zero_any _ s.act A3 A4 c3 c4).mono ?_
            rintro e xz ⟨rfl, hBz⟩
            have HBz := Lib.hid (H1s.out.trans (hBz.mono H1s.out.size))
            cases hz : zeroA s.act with
            | false =>
              have Hp : Hid (formatA a = ([], 15)) := Lib.hid (by rw [Hfa.out, Hff.out, if_pos hz])
              clear hz hBz
              go_wp2_with fail
              go_ret2
              exact ⟨by rw [Hp.out]; rfl, HBz.out⟩
            | true =>
              rw [if_neg (by rw [hz]; decide)] at Hff
              cases hk : s.ok with
              | false =>
                have Hp : Hid (formatA a = ([], 6)) := Lib.hid (by rw [Hfa.out, Hff.out, if_pos hk])
                clear hz hBz hk
                go_wp2_with fail
                go_ret2
                exact ⟨by rw [Hp.out]; rfl, HBz.out⟩
              | true =>
                have Hp : Hid (formatA a = limP ((D ++ L).map toL)) := Lib.hid (by rw [Hfa.out, Hff.out, if_neg (by rw [hk]; decide), List.map_append, HDl.out, HLo.out])
                have HoD : Hid (xz.ownsRow w.heap.size 9 1 (.slice (some ⟨xg.heap.size, 0, none⟩) 1 1) D.length (txs D)) := Lib.hid (own_keep HD5.out fun k cs hkk => (hBz.block k (lt_of_heap hkk)).trans hkk)
                have HoL := Lib.hid (own_keep HownL.out fun k cs hkk => (hBz.block k (lt_of_heap hkk)).trans hkk)
                have Hx : Hid (∀ x ∈ (D ++ L).map toL, x.length ≤ 7000000) := Lib.hid (by
                  intro x hx
                  rw [List.map_append, HDl.out, HLo.out, List.mem_append] at hx
                  rcases hx with hx | hx
                  · have h9 := forms_len Hfm.out
                    unfold seconds at hx
                    simp only [List.mem_cons] at hx
                    rcases hx with rfl | hx
                    · omega
                    · split at hx
                      · simp at hx
                      · simp at hx
                        rw [hx]
                        omega
                  · exact Hlen.out x hx)
                clear hz hBz hk
                go_wp2_with (first | (at_builtin; refine wpList_append_texts rfl _ _ rfl w.heap.size _ (.slice (some ⟨xg.heap.size, 0, none⟩) 1 1) _ D L rfl HoD.out rfl HoL.out (by omega) HBz.out.size ?_))
                intro v6 x6 DL hDL hown6 hgrow6
                rw [← hDL.out] at Hp Hx
                obtain ⟨A6, c6, rfl, hS6⟩ := row_sl hown6
                have HB6 := Lib.hid (HBz.out.grown hgrow6 HBz.out.size (fun k hk => (own_blk HoD.out k hk).1))
                have hDL2 : DL.length ≤ 10 := by rw [hDL.out, List.length_append]; omega
                have hjl : (joinB (DL.map toL)).length ≤ 140737488355328 := by
                  have h7 := joinB_len 7000000 _ Hx.out
                  rw [List.length_map] at h7
                  have h8 : DL.length * (7000000 + 1) ≤ 10 * (7000000 + 1) := Nat.mul_le_mul_right _ hDL2
                  omega
                have Hli := Lib.hid (limited_any x6 DL A6 c6 hS6 hjl (by omega))
                clear hown6 hgrow6 hS6 hjl
                go_wp2_with fail
                refine Hli.out.mono ?_
                rintro e x7 ⟨rfl, hB7⟩
                have HB7 := Lib.hid (HB6.out.trans (hB7.mono HB6.out.size))
                clear hB7 Hli
                go_wp2_with fail
                go_ret2
                exact ⟨by rw [Hp.out]; rfl, HB7.out⟩
          · have e2 : W2.toList.isEmpty = false := by
              rw [toList_toL, HW2.out, toL_mkS]
              cases hT : f.second with
              | nil => exact absurd hT hs2
              | cons _ _ => rfl
            have Hlf : Hid (less f a = { a with ck := 0 } ∧ seconds f = [f.second]) := Lib.hid ⟨if_neg hs2, if_neg hs2⟩
            clear hs2
            have Hg1 := Lib.hid hg1
            have HB1 := Lib.hid hB1
            have Hb1 := Lib.hid hb1
            have Ho1 := Lib.hid (Hown1.out.alloc (.cells #[.string W2] 9))
            have Ho2 : Hid (((xg.alloc (.cells #[.string W1] 9)).alloc (.cells #[.string W2] 9)).ownsRow 0 9 1 (.slice (some ⟨xg.heap.size + 1, 0, none⟩) [W2].length 1) [W2].length (txs [W2])) := Lib.hid (own_of_block (xs := txs [W2]) (Nat.zero_le _) (by rw [heap_alloc_if, if_pos (by simp)]; rfl) (by simp [txs, maxLen]))
            clear hg1 hB1 hb1
            go_wp2_with (first | (at_builtin; refine wpList_append_texts rfl _ _ rfl w.heap.size 0 (.slice (some ⟨xg.heap.size, 0, none⟩) 1 1) (.slice (some ⟨xg.heap.size + 1, 0, none⟩) 1 1) [W1] [W2] rfl Ho1.out rfl Ho2.out (by simp) (by simp; have := HBg.out.size; omega) ?_))
            intro v6 x6 D hDD hown6 hgrow6
            obtain ⟨Aw, cw, hv6, _⟩ := row_sl hown6
            subst hv6
            have hDn : D.length ≤ 2 := by rw [hDD.out]; simp
            have hkeep : ∀ k, k < xg.heap.size → x6.heap[k]? = xg.heap[k]? := fun k hk => (hgrow6.block k (by simp; omega) (by simp [Value.ownBlock]; omega)).trans ((Below.heap_alloc _ _ _ (by simp; omega)).trans (Below.heap_alloc _ _ _ hk))
            have hb6 := (hkeep b hbl2).trans Hbg.out
            have hg6 := (hkeep g hgl).trans Hgg.out
            have hB6 : Below w.heap.size w x6 := HBg.out.trans ⟨hgrow6.os, hgrow6.tape, hgrow6.output, by have := hgrow6.size; simp at this; omega, fun k hk => hkeep k (Nat.lt_of_lt_of_le hk HBg.out.size)⟩
            have hc6 := ((blk_cells hb6).1 1).trans hck1'
            have hz6 := (blk_cells hb6).2.1 1
            have Hg1 : Hid ((x6.setCell ⟨b, 1, none⟩ (.int .i64 0)).heap[g]? = some (.cells V.toArray 84 (0, 0))) := Lib.hid (((Fr.setCell [b] x6 ⟨b, 1, none⟩ _ (by simp)).block g (lt_of_heap hg6) (by simp; omega)).trans hg6)
            have HB1 : Hid (Below w.heap.size w (x6.setCell ⟨b, 1, none⟩ (.int .i64 0))) := Lib.hid (hB6.trans ((Fr.setCell [b] x6 ⟨b, 1, none⟩ _ (by simp)).below hB6.size (by rw [Hbw.out]; simp)))
            have Hb1 : Hid ((x6.setCell ⟨b, 1, none⟩ (.int .i64 0)).heap[b]? = some (.cells (actV (less f a) dv fv).toArray 57 (0, 0))) := Lib.hid (by rw [heap_setCell_at hb6, HVA.out, Hlf.out.1]; simp [actV])
            have Hown1 : Hid ((x6.setCell ⟨b, 1, none⟩ (.int .i64 0)).ownsRow w.heap.size 9 1 (.slice Aw D.length cw) D.length (txs D)) := Lib.hid (own_keep hown6 fun k cs hk => by
              rw [(Fr.setCell [b] x6 ⟨b, 1, none⟩ _ (by simp)).block k (lt_of_heap hk) (by
                rintro hkb
                simp only [List.mem_singleton] at hkb
                subst hkb
                rw [hb6] at hk
                cases hk)]
              exact hk)
            have HDl : Hid (D.map toL = f.word :: seconds f) := Lib.hid (by rw [hDD.out, Hlf.out.2, HW1.out, HW2.out]; rfl)
            clear hown6 hgrow6 hkeep hb6 hg6 hB6 Ho1 Ho2
            go_wp2_with ((with_reducible refine at_load 84 ?_); refine wpList_load_row rfl 84 _ rfl g rfl 84 V.toArray (0, 0) _ Hg1.out Tryz.underlying84 rfl H6.out ?_)
            have hs3 := said_any (x6.setCell ⟨b, 1, none⟩ (.int .i64 0)) f Hfm.out b (less f a) dv fv Hb1.out (by rw [(less_data f a).1]; exact Hd1.out.fr (Fr.of_below_at HB1.out Hbw.out)) (by rw [(less_data f a).2]; exact Hd2.out.fr (Fr.of_below_at HB1.out Hbw.out)) (Ha.out.less f) (fun wy hwy => Hw.out.below (HB1.out.trans (hwy.below HB1.out.size (by rw [Hbw.out]; simp))))
            generalize (x6.setCell ⟨b, 1, none⟩ (.int .i64 0)) = xh at *
            rw [← HV.out] at hs3
            refine hs3.mono ?_
            clear hs3
            rintro e xs ⟨L, v, dv2, fv2, rfl, hL5, hLo, hownL, hfrs, hok, hbs, hd1, hd2⟩
            have hBs : Below w.heap.size w xs := HB1.out.trans (hfrs.below HB1.out.size (by rw [Hbw.out]; simp))
            have HD5 : Hid (xs.ownsRow w.heap.size 9 1 (.slice Aw D.length cw) D.length (txs D)) := Lib.hid (own_keep Hown1.out fun k cs hk => (hfrs.block k (lt_of_heap hk) (by
              rintro hkb
              simp only [List.mem_singleton] at hkb
              subst hkb
              rw [Hb1.out] at hk
              cases hk)).trans hk)
            obtain ⟨s, hs⟩ : ∃ s, s = saidF f.fields ⟨[], true, less f a⟩ := ⟨_, rfl⟩
            rw [← hs] at hLo hok hbs hd1 hd2 Hff ⊢
            have Hlen : Hid (∀ x ∈ s.out, x.length ≤ 7000000) := Lib.hid (by rw [hs]; exact saidF_len _ _ (Ha.out.less f) (by simp))
            obtain ⟨A3, c3, hdv3, _⟩ := hd1.form
            obtain ⟨A4, c4, hfv4, _⟩ := hd2.form
            subst hdv3
            subst hfv4
            obtain ⟨A5, c5, hv5, _⟩ := own_form hownL
            subst hv5
            have Hbs := Lib.hid hbs
            have H1s := Lib.hid hBs
            have Hd1s := Lib.hid hd1
            have Hd2s := Lib.hid hd2
            have HLo := Lib.hid hLo
            have HownL := Lib.hid hownL
            have Hsza : Hid ((Tryz.prog.info? 57).map (·.size) = some (actV s.act (.slice A3 s.act.data.length c3) (.slice A4 s.act.fdata.length c4)).toArray.size) := Lib.hid sizeAct
            clear hs hBs hbs hd1 hd2 hLo hownL hok
            go_wp2_with ((with_reducible refine at_load 57 ?_); refine wpList_load_row rfl 57 _ rfl b rfl 57 (actV s.act (.slice A3 s.act.data.length c3) (.slice A4 s.act.fdata.length c4)).toArray (0, 0) _ Hbs.out Tryz.underlying57 rfl Hsza.out ?_)
            refine (zero_any _ s.act A3 A4 c3 c4).mono ?_
            rintro e xz ⟨rfl, hBz⟩
            have HBz := Lib.hid (H1s.out.trans (hBz.mono H1s.out.size))
            cases hz : zeroA s.act with
            | false =>
              have Hp : Hid (formatA a = ([], 15)) := Lib.hid (by rw [Hfa.out, Hff.out, if_pos hz])
              clear hz hBz
              go_wp2_with fail
              go_ret2
              exact ⟨by rw [Hp.out]; rfl, HBz.out⟩
            | true =>
              rw [if_neg (by rw [hz]; decide)] at Hff
              cases hk : s.ok with
              | false =>
                have Hp : Hid (formatA a = ([], 6)) := Lib.hid (by rw [Hfa.out, Hff.out, if_pos hk])
                clear hz hBz hk
                go_wp2_with fail
                go_ret2
                exact ⟨by rw [Hp.out]; rfl, HBz.out⟩
              | true =>
                have Hp : Hid (formatA a = limP ((D ++ L).map toL)) := Lib.hid (by rw [Hfa.out, Hff.out, if_neg (by rw [hk]; decide), List.map_append, HDl.out, HLo.out])
                have HoD : Hid (xz.ownsRow w.heap.size 9 1 (.slice Aw D.length cw) D.length (txs D)) := Lib.hid (own_keep HD5.out fun k cs hkk => (hBz.block k (lt_of_heap hkk)).trans hkk)
                have HoL := Lib.hid (own_keep HownL.out fun k cs hkk => (hBz.block k (lt_of_heap hkk)).trans hkk)
                have Hx : Hid (∀ x ∈ (D ++ L).map toL, x.length ≤ 7000000) := Lib.hid (by
                  intro x hx
                  rw [List.map_append, HDl.out, HLo.out, List.mem_append] at hx
                  rcases hx with hx | hx
                  · have h9 := forms_len Hfm.out
                    unfold seconds at hx
                    simp only [List.mem_cons] at hx
                    rcases hx with rfl | hx
                    · omega
                    · split at hx
                      · simp at hx
                      · simp at hx
                        rw [hx]
                        omega
                  · exact Hlen.out x hx)
                clear hz hBz hk
                go_wp2_with (first | (at_builtin; refine wpList_append_texts rfl _ _ rfl w.heap.size _ (.slice Aw D.length cw) _ D L rfl HoD.out rfl HoL.out (by omega) HBz.out.size ?_))
                intro v6 x6 DL hDL hown6 hgrow6
                rw [← hDL.out] at Hp Hx
                obtain ⟨A6, c6, rfl, hS6⟩ := row_sl hown6
                have HB6 := Lib.hid (HBz.out.grown hgrow6 HBz.out.size (fun k hk => (own_blk HoD.out k hk).1))
                have hDL2 : DL.length ≤ 10 := by rw [hDL.out, List.length_append]; omega
                have hjl : (joinB (DL.map toL)).length ≤ 140737488355328 := by
                  have h7 := joinB_len 7000000 _ Hx.out
                  rw [List.length_map] at h7
                  have h8 : DL.length * (7000000 + 1) ≤ 10 * (7000000 + 1) := Nat.mul_le_mul_right _ hDL2
                  omega
                have Hli := Lib.hid (limited_any x6 DL A6 c6 hS6 hjl (by omega))
                clear hown6 hgrow6 hS6 hjl
                go_wp2_with fail
                refine Hli.out.mono ?_
                rintro e x7 ⟨rfl, hB7⟩
                have HB7 := Lib.hid (HB6.out.trans (hB7.mono HB6.out.size))
                clear hB7 Hli
                go_wp2_with fail
                go_ret2
                exact ⟨by rw [Hp.out]; rfl, HB7.out⟩)
    · --[E
      have hge : ¬ (i : Int) < 15 := by omega
      have hi15 : i = 15 := by omega
      subst hi15
      have Hp : Hid (formatA a = ([], 7)) := Lib.hid (by unfold formatA; rw [findA_none (l := FORMS) Hno.out])
      have HBe := Lib.hid (HBw.out.trans (HB.out.mono HBw.out.size))
      go_wp2_with fail
      go_ret2
      exact ⟨by rw [Hp.out]; rfl, HBe.out⟩
      --]E
end Go.Proofs.YtlljjddgbilipaaGreatDoor
