/-
  (form).said: the words of an act's fields, which are zero then.
-/
import Derived.Test.YtlljjddgbilipaaGreatDoorTxSa0
import Derived.Test.YtlljjddgbilipaaGreatDoorTxAbs
namespace Go.Proofs.YtlljjddgbilipaaGreatDoor
open Go.RowKit Go.Maps

set_option linter.unusedSimpArgs false

attribute [local go_sem] lt1 lt2 lt3 lt4 lt5 lt6

theorem forms_five {f : Form} (h : f ∈ FORMS) : f.fields.length ≤ 5 := by
  have : ∀ f ∈ FORMS, f.fields.length ≤ 5 := by decide +kernel
  exact this f h
set_option maxRecDepth 100000 in
set_option maxHeartbeats 4000000 in
theorem said_any (w : World) (f : Form) (hf : f ∈ FORMS) (b : Nat) (a : ActD) (dv fv : Value) (hb : w.heap[b]? = some (.cells (actV a dv fv).toArray 57 (0, 0))) (hdv : Dq w [b] dv a.data) (hfv : Dq w [b] fv a.fdata) (ha : ActOk a) (hL : ∀ wr, Fr [b] w wr → Lw wr) :
    Calls Tryz.prog 38 #[.agg (fmV f).toArray, .pointer (some ⟨b, 0, none⟩)] w (SaPost w b f.fields ⟨[], true, a⟩) := by
  obtain ⟨i0, hi0, hz0, hz1, hz2⟩ := info_parts infoStr1
  have HL := Lib.hid hL
  have Hf := Lib.hid hf
  have Hb := Lib.hid hb
  have Hdv := Lib.hid hdv
  have Hfv := Lib.hid hfv
  have Ha := Lib.hid ha
  have hbl := lt_of_heap hb
  have hfive := forms_five hf
  clear hL hf hb hdv hfv ha
  have hk2 : (fmV f).toArray[4]? = some (.string (mkS f.fields)) := rfl
  generalize hVf : (fmV f).toArray = VF at *
  clear hVf
  go_enter Tryz.func38, Tryz.ntmps38
  go_wp2_with fail
  obtain ⟨x0, hx0⟩ : ∃ x0, x0 = (w.alloc (.cells VF 84)).iter (mkS f.fields) 0 := ⟨_, rfl⟩
  have hB0 : Below w.heap.size w x0 := by
    rw [hx0]
    exact ((Below.refl w.heap.size w).alloc (Nat.le_refl _) _).alloc (by simp) _
  have hg0 : x0.heap[w.heap.size + 1]? = some (.stringIter (mkS f.fields) 0) := by
    rw [hx0]
    unfold World.iter
    rw [heap_alloc_if, if_pos (by simp)]
  rw [← hx0]
  obtain ⟨g, hg⟩ : ∃ g, g = w.heap.size + 1 := ⟨_, rfl⟩
  rw [← hg] at hg0 ⊢
  have hbg : b ≠ g := by omega
  have hgw : w.heap.size ≤ g := by omega
  have hgx := lt_of_heap hg0
  have hx0s := hB0.size
  have Hat : Hid (SaRel x0 b g f.fields ⟨[], true, a⟩ (.slice none 0 0) (.bool true) x0) := Lib.hid ⟨0, _, [], dv, fv, by omega, by simp, rfl, rfl, rfl, World.ownsRow_nil _ _ _ _, Ha.out, Fr.refl _ _, (hB0.block b hbl).trans Hb.out, hg0, ?_, ?_⟩
  rotate_left
  · exact (Hdv.out.more hgw).fr (Fr.of_below hB0 [b, g])
  · exact (Hfv.out.more hgw).fr (Fr.of_below hB0 [b, g])
  have HB0 := Lib.hid hB0
  clear hB0 hg0 hx0 hg
  go_loopw [6, 7] (fun ov kv wr => SaRel x0 b g f.fields ⟨[], true, a⟩ ov kv wr) (fun _ _ wr => f.fields.length - wr.iterPos g)
  case atStart => exact Hat.out
  case round =>
    obtain ⟨i, st, L, dv, fv, hi, hLi, hsf, rfl, hLo, hown, hok, hfr, hb, hg, hdv, hfv⟩ := hrel
    have Hsf := Lib.hid hsf
    clear hsf Hat
    obtain ⟨Av, cv, rfl, _, _, _, _⟩ := own_form hown
    by_cases hlt : i < f.fields.length
    · have hltS : i < (mkS f.fields).size := by rw [mkS_size]; exact hlt
      have hcb := str_byte hltS
      rw [toL_mkS] at hcb
      obtain ⟨ch, hch⟩ : ∃ ch, ch = f.fields.getD i 0 := ⟨_, rfl⟩
      rw [← hch] at hcb
      have hasc : ch.toNat < 128 := forms_ascii Hf.out ch (by
        rw [hch, List.getD_eq_getElem?_getD, List.getElem?_eq_getElem hlt]
        exact List.getElem_mem hlt)
      have hnx := fun ty => run_next_at (P := Tryz.prog) ty hg hltS (by rw [hcb]; exact hasc)
      rw [hcb] at hnx
      obtain ⟨x3, hx3⟩ : ∃ x3, x3 = ChangeMaps.setBlock wr g (.stringIter (mkS f.fields) (i + 1)) := ⟨_, rfl⟩
      have hfr3 : Fr [b, g] x0 x3 := by rw [hx3]; exact hfr.trans (Fr.setBlock [b, g] wr g _ (by simp))
      have hb3 : x3.heap[b]? = some (.cells (actV st.act dv fv).toArray 57 (0, 0)) := by rw [hx3, setBlock_other hbg]; exact hb
      have hg3 : x3.heap[g]? = some (.stringIter (mkS f.fields) (i + 1)) := by rw [hx3]; exact setBlock_same (lt_of_heap hg)
      have hown3 : x3.ownsRow x0.heap.size 9 1 (.slice Av L.length cv) L.length (txs L) := own_keep hown fun k cs hk => by
        rw [hx3, setBlock_other]
        · exact hk
        · rintro rfl
          rw [hg] at hk
          cases hk
      have hm0 : wr.iterPos g = i := by unfold World.iterPos; rw [hg]
      rw [← hx3] at hnx
      have hL5 : L.length ≤ 5 := by omega
      have hfin : ∀ (x4 : World) (L' : List ByteArray) (ov : Value) (dv' fv' : Value), L'.length ≤ L.length + 1 → L'.map toL = (saidStep ch st).out → x4.ownsRow x0.heap.size 9 1 ov L'.length (txs L') → Fr [b, g] x0 x4 → x4.heap[b]? = some (.cells (actV (saidStep ch st).act dv' fv').toArray 57 (0, 0)) → x4.heap[g]? = some (.stringIter (mkS f.fields) (i + 1)) →
          Dq x0 [b, g] dv' (saidStep ch st).act.data → Dq x0 [b, g] fv' (saidStep ch st).act.fdata → SaRel x0 b g f.fields ⟨[], true, a⟩ ov (.bool (saidStep ch st).ok) x4 ∧ f.fields.length - x4.iterPos g < f.fields.length - wr.iterPos g := fun x4 L' ov dv' fv' h1 h2 h3 h4 h5 h6 h7 h8 =>
        ⟨⟨i + 1, saidStep ch st, L', dv', fv', by omega, by omega, by rw [Hsf.out, drop_getD hlt, ← hch, saidF], rfl, h2, h3, hok.step ch, h4, h5, h6, h7, h8⟩, by rw [hm0]; unfold World.iterPos; rw [h6]; simp only; omega⟩
      have Hfin := Lib.hid hfin
      have Hfr3 := Lib.hid hfr3
      have Hb3 := Lib.hid hb3
      have Hg3 := Lib.hid hg3
      have Hdv3 := Lib.hid hdv
      have Hfv3 := Lib.hid hfv
      have Hown3 := Lib.hid hown3
      have Hok := Lib.hid hok
      have HLo := Lib.hid hLo
      have Hch := Lib.hid hch
      have HLw3 := Lib.hid (HL.out x3 ((Fr.of_below HB0.out [b]).fresh hgw (hfr3.more (by intro k hk; simp at hk ⊢; omega))))
      clear hfin hfr3 hb3 hg3 hown3 hdv hfv hch hx3 hb hg hown hfr hcb hok hLo
      cases ht : tOff ch with
      | some o =>
        --[T
        have ho := off_lt (.inl ht)
        have hbo : bOff ch = none := by
          rcases tOff_cases ht with ⟨e, _⟩ | ⟨e, _⟩ | ⟨e, _⟩ | ⟨e, _⟩ <;> (unfold bOff; rw [e]; rfl)
        have hno : nOff ch = none := by
          rcases tOff_cases ht with ⟨e, _⟩ | ⟨e, _⟩ | ⟨e, _⟩ | ⟨e, _⟩ <;> (unfold nOff; rw [e]; rfl)
        have hk75 : ((ch.toNat : Int) == 75) = false := by
          rcases tOff_cases ht with ⟨e, _⟩ | ⟨e, _⟩ | ⟨e, _⟩ | ⟨e, _⟩ <;> (rw [e]; rfl)
        have hst : saidStep ch st = ⟨st.out ++ [writeW (getT ch st.act)], st.ok, setT ch [] st.act⟩ := by unfold saidStep; rw [ht]; rfl
        rw [hst] at Hfin
        obtain ⟨hsa, hsd, hsf⟩ := actV_setT ht st.act [] dv fv
        obtain ⟨X, hX⟩ : ∃ X, X = mkS (getT ch st.act) := ⟨_, rfl⟩
        have hXs : X.size ≤ 1048576 := by rw [hX, mkS_size]; exact Hok.out.getT ch
        have hco : x3.cell? ⟨b, o, none⟩ = some (.string X) := ((blk_cells Hb3.out).1 o).trans (by rw [List.getElem?_toArray, hX]; exact actV_getT ht _ _ _)
        have HX := Lib.hid hX
        have Ht := Lib.hid ht
        have Hbo := Lib.hid hbo
        have Hno := Lib.hid hno
        have Hsa := Lib.hid hsa
        have Hsd := Lib.hid hsd
        have Hsf := Lib.hid hsf
        clear ht hbo hno hsa hsd hsf hst hX
        go_wp2_with fail
        refine (textOf_any b ch _).mono ?_
        rintro e w1 ⟨rfl, rfl⟩
        rw [Ht.out]
        simp only [Option.map_some]
        go_wp2_with fail
        refine (word_any _ X hXs).mono ?_
        rintro e x4 ⟨rfl, hB4⟩
        obtain ⟨W, hW⟩ : ∃ W, W = mkS (writeW (toL X)) := ⟨_, rfl⟩
        rw [← hW]
        have HW := Lib.hid hW
        have Hown4 : Hid (x4.ownsRow x0.heap.size 9 1 (.slice Av L.length cv) L.length (txs L)) := Lib.hid (own_keep Hown3.out fun k cs hk => (hB4.block k (lt_of_heap hk)).trans hk)
        have hb4 := (hB4.block b (lt_of_heap Hb3.out)).trans Hb3.out
        have hg4 := (hB4.block g (lt_of_heap Hg3.out)).trans Hg3.out
        have hx4 := Nat.le_trans Hfr3.out.size hB4.size
        have hfr4 : Fr [b, g] x0 x4 := Hfr3.out.trans (Fr.of_below hB4 _)
        clear hW hB4
        go_wp2_with (first | (at_builtin; refine wpList_append_own _ rfl _ _ 25 rfl x0.heap.size 9 i0 (.string ByteArray.empty) 1 16 Tryz.underlying25 hi0 hz0 hz1 hz2 rfl (by omega) (.slice Av L.length cv) L.length (txs L) rfl (Hown4.out.alloc _) ⟨x4.heap.size, 0, none⟩ 1 1 [.string W] rfl rfl (fun j v hv => World.news_of_block (w := x4.alloc _) (heap_alloc_new x4 _) j v hv) (txs_one [W]) (by unfold maxLen; omega) (by omega) (by simp; omega) ?_))
        intro v1 wp hown1 hgrow1 _
        have hbl4 := lt_of_heap hb4
        have hgl4 := lt_of_heap hg4
        have hnb : ∀ k, (Value.slice Av L.length cv).ownBlock = some k → x0.heap.size ≤ k := fun k hk => (own_blk Hown4.out k hk).1
        have hgg : ∀ k, k < x4.heap.size → k < x0.heap.size → wp.heap[k]? = x4.heap[k]? := fun k hk hk0 => (hgrow1.block k (by simp; omega) (fun e => by have := hnb k e.symm; omega)).trans (Below.heap_alloc _ _ _ hk)
        have hb5 := (hgg b hbl4 (by omega)).trans hb4
        have hg5 := (hgg g hgl4 hgx).trans hg4
        have hfr5 : Fr [b, g] x0 wp := ⟨hgrow1.os.trans hfr4.os, hgrow1.tape.trans hfr4.tape, hgrow1.output.trans hfr4.output, by have := hgrow1.size; simp at this; omega, fun k hk hn => (hgg k (by omega) hk).trans (hfr4.block k hk hn)⟩
        have hc5 := (blk_cells hb5).1 o
        have hz5 := (blk_cells hb5).2.1 o
        obtain ⟨Av1, cv1, rfl, _, _, _, _⟩ := own_form hown1
        have hF := Hfin.out (wp.setCell ⟨b, o, none⟩ (.string ⟨#[]⟩)) (L ++ [W]) (.slice Av1 (L.length + 1) cv1) dv fv (by simp) (by rw [List.map_append, HLo.out]; simp [HW.out, toL_mkS, HX.out]) (own_keep (txs_push hown1) fun k cs hk => by
            rw [(Fr.setCell [b] wp ⟨b, o, none⟩ _ (by simp)).block k (lt_of_heap hk) (by
              rintro hkb
              simp only [List.mem_singleton] at hkb
              subst hkb
              rw [hb5] at hk
              cases hk)]
            exact hk) (hfr5.trans (Fr.setCell [b, g] wp ⟨b, o, none⟩ _ (by simp))) (by rw [heap_setCell_at hb5, show (Value.string ⟨#[]⟩) = .string (mkS []) from rfl, ← Hsa.out]; simp) (((Fr.setCell [b] wp ⟨b, o, none⟩ _ (by simp)).block g (lt_of_heap hg5) (by simp; omega)).trans hg5) (by rw [Hsd.out]; exact Hdv3.out) (by rw [Hsf.out]; exact Hfv3.out)
        have HF := Lib.hid hF
        obtain ⟨old, hold⟩ : ∃ old, (actV st.act dv fv).toArray[o]? = some old := ⟨_, Array.getElem?_eq_getElem (by simp [actV]; omega)⟩
        rw [hold] at hc5
        clear hF hfr5 hg5 hb5 hgg hnb hgl4 hbl4 hown1 hgrow1 hfr4 hg4 hb4 hold
        go_wp2_with fail
        refine (bytesOf_any b ch _).mono ?_
        rintro e w1 ⟨rfl, rfl⟩
        rw [Hbo.out]
        simp only [Option.map_none]
        go_wp2_with fail
        refine (numberOf_any b ch _).mono ?_
        rintro e w1 ⟨rfl, rfl⟩
        rw [Hno.out]
        simp only [Option.map_none]
        go_wp2_with fail
        exact HF.out
        --]T
      | none =>
      cases hbo : bOff ch with
      | some o =>
        --[B
        have ho := off_lt (.inr (.inl hbo))
        have hno : nOff ch = none := by
          rcases bOff_cases hbo with ⟨e, _⟩ | ⟨e, _⟩ <;> (unfold nOff; rw [e]; rfl)
        have hk75 : ((ch.toNat : Int) == 75) = false := by
          rcases bOff_cases hbo with ⟨e, _⟩ | ⟨e, _⟩ <;> (rw [e]; rfl)
        have hst : saidStep ch st = ⟨st.out ++ [writeW (getB ch st.act)], st.ok, setB ch [] st.act⟩ := by unfold saidStep; rw [ht, hbo]; rfl
        rw [hst] at Hfin
        obtain ⟨dv', fv', hsa, hsq⟩ := actV_setB hbo st.act [] nilV dv fv
        obtain ⟨hq1, hq2⟩ := hsq (fun v l => Dq x0 [b, g] v l) Hdv3.out Hfv3.out (Dq.nil _ _)
        obtain ⟨v0, hv0, hvq⟩ := actV_getB hbo st.act dv fv
        have hvd := hvq (fun v l => Dq x0 [b, g] v l) Hdv3.out Hfv3.out
        obtain ⟨A3, c3, rfl, hbs⟩ := (hvd.fr Hfr3.out).form
        have hXs : (mkS (getB ch st.act)).size ≤ 1048576 := by rw [mkS_size]; exact Hok.out.getB ch
        have hcv := str_of_bs hbs
        have hco : x3.cell? ⟨b, o, none⟩ = some (.slice A3 (getB ch st.act).length c3) := ((blk_cells Hb3.out).1 o).trans (by rw [List.getElem?_toArray]; exact hv0)
        obtain ⟨X, hX⟩ : ∃ X, X = mkS (getB ch st.act) := ⟨_, rfl⟩
        have hX' : (⟨(getB ch st.act).toArray⟩ : ByteArray) = X := hX.symm
        rw [hX'] at hcv
        rw [← hX] at hXs
        have HX := Lib.hid hX
        have Ht := Lib.hid ht
        have Hbo := Lib.hid hbo
        have Hno := Lib.hid hno
        have Hsa := Lib.hid hsa
        have Hq1 := Lib.hid hq1
        have Hq2 := Lib.hid hq2
        generalize (getB ch st.act).length = ln at *
        clear ht hbo hno hsa hst hX hX' hsq hq1 hq2 hv0 hvq hvd hbs
        go_wp2_with fail
        refine (textOf_any b ch _).mono ?_
        rintro e w1 ⟨rfl, rfl⟩
        rw [Ht.out]
        simp only [Option.map_none]
        go_wp2_with fail
        refine (bytesOf_any b ch _).mono ?_
        rintro e w1 ⟨rfl, rfl⟩
        rw [Hbo.out]
        simp only [Option.map_some]
        go_wp2_with fail
        refine (word_any _ X hXs).mono ?_
        rintro e x4 ⟨rfl, hB4⟩
        obtain ⟨W, hW⟩ : ∃ W, W = mkS (writeW (toL X)) := ⟨_, rfl⟩
        rw [← hW]
        have HW := Lib.hid hW
        have Hown4 : Hid (x4.ownsRow x0.heap.size 9 1 (.slice Av L.length cv) L.length (txs L)) := Lib.hid (own_keep Hown3.out fun k cs hk => (hB4.block k (lt_of_heap hk)).trans hk)
        have hb4 := (hB4.block b (lt_of_heap Hb3.out)).trans Hb3.out
        have hg4 := (hB4.block g (lt_of_heap Hg3.out)).trans Hg3.out
        have hx4 := Nat.le_trans Hfr3.out.size hB4.size
        have hfr4 : Fr [b, g] x0 x4 := Hfr3.out.trans (Fr.of_below hB4 _)
        clear hW hB4
        go_wp2_with (first | (at_builtin; refine wpList_append_own _ rfl _ _ 25 rfl x0.heap.size 9 i0 (.string ByteArray.empty) 1 16 Tryz.underlying25 hi0 hz0 hz1 hz2 rfl (by omega) (.slice Av L.length cv) L.length (txs L) rfl (Hown4.out.alloc _) ⟨x4.heap.size, 0, none⟩ 1 1 [.string W] rfl rfl (fun j v hv => World.news_of_block (w := x4.alloc _) (heap_alloc_new x4 _) j v hv) (txs_one [W]) (by unfold maxLen; omega) (by omega) (by simp; omega) ?_))
        intro v1 wp hown1 hgrow1 _
        have hbl4 := lt_of_heap hb4
        have hgl4 := lt_of_heap hg4
        have hnb : ∀ k, (Value.slice Av L.length cv).ownBlock = some k → x0.heap.size ≤ k := fun k hk => (own_blk Hown4.out k hk).1
        have hgg : ∀ k, k < x4.heap.size → k < x0.heap.size → wp.heap[k]? = x4.heap[k]? := fun k hk hk0 => (hgrow1.block k (by simp; omega) (fun e => by have := hnb k e.symm; omega)).trans (Below.heap_alloc _ _ _ hk)
        have hb5 := (hgg b hbl4 (by omega)).trans hb4
        have hg5 := (hgg g hgl4 hgx).trans hg4
        have hfr5 : Fr [b, g] x0 wp := ⟨hgrow1.os.trans hfr4.os, hgrow1.tape.trans hfr4.tape, hgrow1.output.trans hfr4.output, by have := hgrow1.size; simp at this; omega, fun k hk hn => (hgg k (by omega) hk).trans (hfr4.block k hk hn)⟩
        have hc5 := (blk_cells hb5).1 o
        have hz5 := (blk_cells hb5).2.1 o
        obtain ⟨Av1, cv1, rfl, _, _, _, _⟩ := own_form hown1
        have hF := Hfin.out (wp.setCell ⟨b, o, none⟩ (.slice none 0 0)) (L ++ [W]) (.slice Av1 (L.length + 1) cv1) dv' fv' (by simp) (by rw [List.map_append, HLo.out]; simp [HW.out, toL_mkS, HX.out]) (own_keep (txs_push hown1) fun k cs hk => by
            rw [(Fr.setCell [b] wp ⟨b, o, none⟩ _ (by simp)).block k (lt_of_heap hk) (by
              rintro hkb
              simp only [List.mem_singleton] at hkb
              subst hkb
              rw [hb5] at hk
              cases hk)]
            exact hk) (hfr5.trans (Fr.setCell [b, g] wp ⟨b, o, none⟩ _ (by simp))) (by rw [heap_setCell_at hb5, show (Value.slice none 0 0) = nilV from rfl, ← Hsa.out]; simp) (((Fr.setCell [b] wp ⟨b, o, none⟩ _ (by simp)).block g (lt_of_heap hg5) (by simp; omega)).trans hg5) Hq1.out Hq2.out
        have HF := Lib.hid hF
        obtain ⟨old, hold⟩ : ∃ old, (actV st.act dv fv).toArray[o]? = some old := ⟨_, Array.getElem?_eq_getElem (by simp [actV]; omega)⟩
        rw [hold] at hc5
        clear hF hfr5 hg5 hb5 hgg hnb hgl4 hbl4 hown1 hgrow1 hfr4 hg4 hb4 hold
        go_wp2_with fail
        refine (numberOf_any b ch _).mono ?_
        rintro e w1 ⟨rfl, rfl⟩
        rw [Hno.out]
        simp only [Option.map_none]
        go_wp2_with fail
        exact HF.out
        --]B
      | none =>
      cases hno : nOff ch with
      | some o =>
        --[N
        have ho := off_lt (.inr (.inr hno))
        have hk75 : ((ch.toNat : Int) == 75) = false := by
          rcases nOff_cases hno with ⟨e, _⟩ | ⟨e, _⟩ | ⟨e, _⟩ | ⟨e, _⟩ <;> (rw [e]; rfl)
        have hst : saidStep ch st = ⟨st.out ++ [Lib.itoa (getN ch st.act)], st.ok && inN (getN ch st.act), setN ch 0 st.act⟩ := by unfold saidStep; rw [ht, hbo, hno]; rfl
        rw [hst] at Hfin
        obtain ⟨hsa, hsd, hsf⟩ := actV_setN hno st.act 0 dv fv
        have hco : x3.cell? ⟨b, o, none⟩ = some (.int .i64 (getN ch st.act)) := ((blk_cells Hb3.out).1 o).trans (by rw [List.getElem?_toArray]; exact actV_getN hno _ _ _)
        have hN := Hok.out.getN ch
        generalize getN ch st.act = X at *
        have Ht := Lib.hid ht
        have Hbo := Lib.hid hbo
        have Hno := Lib.hid hno
        have Hsa := Lib.hid hsa
        have Hsd := Lib.hid hsd
        have Hsf := Lib.hid hsf
        clear ht hbo hno hsa hsd hsf hst
        go_wp2_with fail
        refine (textOf_any b ch _).mono ?_
        rintro e w1 ⟨rfl, rfl⟩
        rw [Ht.out]
        simp only [Option.map_none]
        go_wp2_with fail
        refine (bytesOf_any b ch _).mono ?_
        rintro e w1 ⟨rfl, rfl⟩
        rw [Hbo.out]
        simp only [Option.map_none]
        go_wp2_with fail
        refine (numberOf_any b ch _).mono ?_
        rintro e w1 ⟨rfl, rfl⟩
        rw [Hno.out]
        simp only [Option.map_some]
        go_wp2_with fail
        refine (itoa_call hN.1 hN.2 HLw3.out).mono ?_
        rintro e x4 ⟨rfl, hB4⟩
        obtain ⟨W, hW⟩ : ∃ W, W = mkS (Lib.itoa X) := ⟨_, rfl⟩
        rw [← hW]
        have HW := Lib.hid hW
        have Hown4 : Hid (x4.ownsRow x0.heap.size 9 1 (.slice Av L.length cv) L.length (txs L)) := Lib.hid (own_keep Hown3.out fun k cs hk => (hB4.block k (lt_of_heap hk)).trans hk)
        have hb4 := (hB4.block b (lt_of_heap Hb3.out)).trans Hb3.out
        have hg4 := (hB4.block g (lt_of_heap Hg3.out)).trans Hg3.out
        have hx4 := Nat.le_trans Hfr3.out.size hB4.size
        have hfr4 : Fr [b, g] x0 x4 := Hfr3.out.trans (Fr.of_below hB4 _)
        clear hW hB4
        go_wp2_with (first | (at_builtin; refine wpList_append_own _ rfl _ _ 25 rfl x0.heap.size 9 i0 (.string ByteArray.empty) 1 16 Tryz.underlying25 hi0 hz0 hz1 hz2 rfl (by omega) (.slice Av L.length cv) L.length (txs L) rfl (Hown4.out.alloc _) ⟨x4.heap.size, 0, none⟩ 1 1 [.string W] rfl rfl (fun j v hv => World.news_of_block (w := x4.alloc _) (heap_alloc_new x4 _) j v hv) (txs_one [W]) (by unfold maxLen; omega) (by omega) (by simp; omega) ?_))
        intro v1 wp hown1 hgrow1 _
        have hbl4 := lt_of_heap hb4
        have hgl4 := lt_of_heap hg4
        have hnb : ∀ k, (Value.slice Av L.length cv).ownBlock = some k → x0.heap.size ≤ k := fun k hk => (own_blk Hown4.out k hk).1
        have hgg : ∀ k, k < x4.heap.size → k < x0.heap.size → wp.heap[k]? = x4.heap[k]? := fun k hk hk0 => (hgrow1.block k (by simp; omega) (fun e => by have := hnb k e.symm; omega)).trans (Below.heap_alloc _ _ _ hk)
        have hb5 := (hgg b hbl4 (by omega)).trans hb4
        have hg5 := (hgg g hgl4 hgx).trans hg4
        have hfr5 : Fr [b, g] x0 wp := ⟨hgrow1.os.trans hfr4.os, hgrow1.tape.trans hfr4.tape, hgrow1.output.trans hfr4.output, by have := hgrow1.size; simp at this; omega, fun k hk hn => (hgg k (by omega) hk).trans (hfr4.block k hk hn)⟩
        have hc5 := (blk_cells hb5).1 o
        have hz5 := (blk_cells hb5).2.1 o
        obtain ⟨Av1, cv1, rfl, _, _, _, _⟩ := own_form hown1
        have hF := Hfin.out (wp.setCell ⟨b, o, none⟩ (.int .i64 0)) (L ++ [W]) (.slice Av1 (L.length + 1) cv1) dv fv (by simp) (by rw [List.map_append, HLo.out]; simp [HW.out, toL_mkS]) (own_keep (txs_push hown1) fun k cs hk => by
            rw [(Fr.setCell [b] wp ⟨b, o, none⟩ _ (by simp)).block k (lt_of_heap hk) (by
              rintro hkb
              simp only [List.mem_singleton] at hkb
              subst hkb
              rw [hb5] at hk
              cases hk)]
            exact hk) (hfr5.trans (Fr.setCell [b, g] wp ⟨b, o, none⟩ _ (by simp))) (by rw [heap_setCell_at hb5, ← Hsa.out]; simp) (((Fr.setCell [b] wp ⟨b, o, none⟩ _ (by simp)).block g (lt_of_heap hg5) (by simp; omega)).trans hg5) (by rw [Hsd.out]; exact Hdv3.out) (by rw [Hsf.out]; exact Hfv3.out)
        have HF := Lib.hid hF
        have hoX : (actV st.act dv fv).toArray[o]? = some (.int .i64 X) := by
          have h9 := ((blk_cells Hb3.out).1 o).symm.trans hco
          exact h9
        clear hF hfr5 hg5 hb5 hgg hnb hgl4 hbl4 hown1 hgrow1 hfr4 hg4 hb4
        have hcX := hc5.trans (show (actV st.act dv fv).toArray[o]? = some (.int .i64 X) from hoX)
        clear hc5 hoX
        cases hsok : st.ok with
        | true =>
          rw [hsok, Bool.true_and] at HF
          go_wp2_with fail
          refine (within_any X _).mono ?_
          rintro e w1 ⟨rfl, rfl⟩
          rw [show decide (-4611686018427387904 ≤ X ∧ X ≤ 4611686018427387904) = inN X from rfl]
          go_wp2_with fail
          exact HF.out
        | false =>
          rw [hsok, Bool.false_and] at HF
          go_wp2_with fail
          exact HF.out
        --]N
      | none =>
        have hst : saidStep ch st = if ch.toNat = 75 then ⟨st.out ++ [kindW st.act.fk], st.ok, { st.act with fk := 0 }⟩ else st := by unfold saidStep; rw [ht, hbo, hno]; rfl
        have Ht := Lib.hid ht
        have Hbo := Lib.hid hbo
        have Hno := Lib.hid hno
        clear ht hbo hno
        by_cases h75 : ch.toNat ≠ 75
        · --[O
          have hk75 : ((ch.toNat : Int) == 75) = false := ne_beq h75
          rw [if_neg h75] at hst
          rw [hst] at Hfin
          have HF := Lib.hid (Hfin.out x3 L (.slice Av L.length cv) dv fv (by omega) HLo.out Hown3.out Hfr3.out Hb3.out Hg3.out Hdv3.out Hfv3.out)
          clear hst h75
          go_wp2_with fail
          refine (textOf_any b ch _).mono ?_
          rintro e w1 ⟨rfl, rfl⟩
          rw [Ht.out]
          simp only [Option.map_none]
          go_wp2_with fail
          refine (bytesOf_any b ch _).mono ?_
          rintro e w1 ⟨rfl, rfl⟩
          rw [Hbo.out]
          simp only [Option.map_none]
          go_wp2_with fail
          refine (numberOf_any b ch _).mono ?_
          rintro e w1 ⟨rfl, rfl⟩
          rw [Hno.out]
          simp only [Option.map_none]
          go_wp2_with fail
          exact HF.out
          --]O
        · --[K
          have h75 := Decidable.not_not.1 h75
          have hk75 : ((ch.toNat : Int) == 75) = true := by rw [h75]; rfl
          rw [if_pos h75] at hst
          rw [hst] at Hfin
          clear hst h75
          have hc10 : x3.cell? ⟨b, 10, none⟩ = some (.int .i64 st.act.fk) := ((blk_cells Hb3.out).1 10).trans rfl
          generalize hfk : st.act.fk = fk at hc10
          have Hfk := Lib.hid hfk
          clear hfk
          go_wp2_with fail
          refine (textOf_any b ch _).mono ?_
          rintro e w1 ⟨rfl, rfl⟩
          rw [Ht.out]
          simp only [Option.map_none]
          go_wp2_with fail
          refine (bytesOf_any b ch _).mono ?_
          rintro e w1 ⟨rfl, rfl⟩
          rw [Hbo.out]
          simp only [Option.map_none]
          go_wp2_with fail
          refine (numberOf_any b ch _).mono ?_
          rintro e w1 ⟨rfl, rfl⟩
          rw [Hno.out]
          simp only [Option.map_none]
          go_wp2_with fail
          have hcd : x3.drew.cell? ⟨b, 10, none⟩ = some (.int .i64 fk) := hc10
          with_reducible refine g_mixx [(0, 1), (2, 1), (3, 1), (4, 1), (5, 1), (6, 0), (1, 2), (7, 3), (8, 3), (9, 3), (10, 3)] (fun w' => w'.cell? ⟨b, 10, none⟩ = some (.int .i64 fk)) 0 _ rfl (by kernel_rfl) (by kernel_rfl) ?_ ?_
          · exact hcd
          intro OPS HD
          simp only [mixX, nthO, consX]
          iterate 5 ((with_reducible refine x_any (v := ?_) ?_ ?_); rotate_left; (rintro _; go_simp; first | done | rfl | (constructor <;> rfl)))
          iterate 1 ((with_reducible refine x_val (v := ?_) ?_ ?_ ?_); rotate_left; (rintro _ hc; go_simp; first | done | rfl | (constructor <;> rfl)); exact hcd)
          with_reducible refine x_one ?_
          refine l_call ?_ ((faults_any _).mono ?_)
          · go_simp
          rintro e x4 ⟨mb, rfl, hmap, hmb, hB4⟩
          refine ⟨_, rfl, ?_⟩
          with_reducible refine x_keep ?_ ?_
          · exact (World.cell?_of_block (hB4.block b (lt_of_heap Hb3.out))).trans hcd
          obtain ⟨W, hlk, hW⟩ := lookup_word hmap (k := fk) (by rw [← Hfk.out]; exact Hok.out.fk)
          have HW := Lib.hid hW
          have hx4 := Nat.le_trans Hfr3.out.size hB4.size
          have Hown4 : Hid (x4.ownsRow x0.heap.size 9 1 (.slice Av L.length cv) L.length (txs L)) := Lib.hid (own_keep Hown3.out fun k cs hk => (hB4.block k (lt_of_heap hk)).trans hk)
          have hb4 := (hB4.block b (lt_of_heap Hb3.out)).trans Hb3.out
          have hg4 := (hB4.block g (lt_of_heap Hg3.out)).trans Hg3.out
          have hfr4 : Fr [b, g] x0 x4 := (Hfr3.out.drewN 1).trans (Fr.of_below hB4 _)
          clear hW hB4 hmap hmb
          iterate 2 ((with_reducible refine x_three ?_); (with_reducible refine l_val (v := ?_) (w' := ?_) ?_ ?_); rotate_left 2; (go_simp; first | done | rfl | (constructor <;> rfl)); (with_reducible refine x_last ?_))
          with_reducible refine x_three ?_
          refine wpList_append_own _ rfl (.tmp 71) (.tmp 79) 25 rfl x0.heap.size 9 i0 (.string ByteArray.empty) 1 16 Tryz.underlying25 hi0 hz0 hz1 hz2 rfl (by omega) (.slice Av L.length cv) L.length (txs L) ?_ (Hown4.out.alloc _) ⟨x4.heap.size, 0, none⟩ 1 1 [.string W] ?_ rfl (fun j v hv => World.news_of_block (w := x4.alloc _) (heap_alloc_new x4 _) j v hv) (txs_one [W]) (by unfold maxLen; omega) (by omega) (by simp; omega) ?_
          · simp [Act.eval, Act.put]
          · simp [Act.eval, Act.put]
          intro v1 wp hown1 hgrow1 _
          have hbl4 := lt_of_heap hb4
          have hgl4 := lt_of_heap hg4
          have hnb : ∀ k, (Value.slice Av L.length cv).ownBlock = some k → x0.heap.size ≤ k := fun k hk => (own_blk Hown4.out k hk).1
          have hgg : ∀ k, k < x4.heap.size → k < x0.heap.size → wp.heap[k]? = x4.heap[k]? := fun k hk hk0 => (hgrow1.block k (by simp; omega) (fun e => by have := hnb k e.symm; omega)).trans (Below.heap_alloc _ _ _ hk)
          have hb5 := (hgg b hbl4 (by omega)).trans hb4
          have hg5 := (hgg g hgl4 hgx).trans hg4
          have hfr5 : Fr [b, g] x0 wp := ⟨hgrow1.os.trans hfr4.os, hgrow1.tape.trans hfr4.tape, hgrow1.output.trans hfr4.output, by have := hgrow1.size; simp at this; omega, fun k hk hn => (hgg k (by omega) hk).trans (hfr4.block k hk hn)⟩
          have hc5 := ((blk_cells hb5).1 10).trans (show (actV st.act dv fv).toArray[10]? = some (.int .i64 st.act.fk) from rfl)
          have hz5 := (blk_cells hb5).2.1 10
          obtain ⟨Av1, cv1, rfl, _, _, _, _⟩ := own_form hown1
          have hF := Hfin.out (wp.setCell ⟨b, 10, none⟩ (.int .i64 0)) (L ++ [W]) (.slice Av1 (L.length + 1) cv1) dv fv (by simp) (by rw [List.map_append, HLo.out]; simp [HW.out, Hfk.out]) (own_keep (txs_push hown1) fun k cs hk => by
              rw [(Fr.setCell [b] wp ⟨b, 10, none⟩ _ (by simp)).block k (lt_of_heap hk) (by
                rintro hkb
                simp only [List.mem_singleton] at hkb
                subst hkb
                rw [hb5] at hk
                cases hk)]
              exact hk) (hfr5.trans (Fr.setCell [b, g] wp ⟨b, 10, none⟩ _ (by simp))) (by rw [heap_setCell_at hb5]; simp [actV]) (((Fr.setCell [b] wp ⟨b, 10, none⟩ _ (by simp)).block g (lt_of_heap hg5) (by simp; omega)).trans hg5) Hdv3.out Hfv3.out
          have HF := Lib.hid hF
          clear hF hfr5 hg5 hb5 hgg hnb hgl4 hbl4 hown1 hgrow1 hfr4 hg4 hb4
          with_reducible refine x_last ?_
          iterate 1 ((with_reducible refine x_three ?_); (with_reducible refine l_val (v := ?_) (w' := ?_) ?_ ?_); rotate_left 2; (go_simp; first | done | rfl | (constructor <;> rfl)); (with_reducible refine x_last ?_))
          with_reducible refine x_end ?_
          simp only [Act.put, List.setIfInBounds_toArray, List.set_cons_zero, List.set_cons_succ]
          go_wp2_with fail
          exact HF.out
          --]K
    · --[E
      have hie : i = f.fields.length := by omega
      have hge : ¬ i < (mkS f.fields).size := by rw [mkS_size]; omega
      have hnx := fun ty => run_next_end_at (P := Tryz.prog) ty hg hge
      have hse : saidF f.fields ⟨[], true, a⟩ = st := by rw [Hsf.out, hie, List.drop_of_length_le (Nat.le_refl _)]; rfl
      have hfw : Fr [b] w wr := (Fr.of_below HB0.out [b]).fresh hgw (hfr.more (by intro k hk; simp at hk ⊢; omega))
      have Hend : Hid (SaPost w b f.fields ⟨[], true, a⟩ (.returned (.tuple #[.slice Av L.length cv, .bool st.ok])) wr) := Lib.hid ⟨L, _, dv, fv, by rw [hse], by omega, by rw [hse]; exact hLo, own_base hown hx0s, hfw, by rw [hse]; exact hok, by rw [hse]; exact hb, by rw [hse]; exact (hdv.fr hfr).less (by simp), by rw [hse]; exact (hfv.fr hfr).less (by simp)⟩
      clear hfw hse hb hg hown hfr hdv hfv hok hLo hie hge
      go_wp2_with fail
      go_ret2
      exact Hend.out
      --]E
end Go.Proofs.YtlljjddgbilipaaGreatDoor
