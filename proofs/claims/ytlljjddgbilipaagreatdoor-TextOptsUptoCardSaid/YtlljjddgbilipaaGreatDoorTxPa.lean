/-
  text.ParseAct: an act of a line.
-/
import Derived.Test.YtlljjddgbilipaaGreatDoorTxPa0
namespace Go.Proofs.YtlljjddgbilipaaGreatDoor
open Go.RowKit Go.Maps

set_option linter.unusedSimpArgs false

attribute [local go_sem] lt1 lt2 lt3 lt4 lt5 lt6

set_option maxRecDepth 100000 in
set_option maxHeartbeats 4000000 in
theorem parseAct_any (s : ByteArray) (hl : s.size ≤ 1048576) {w : World} (hw : Lw w) : Calls Tryz.prog 14 #[.string s] w (PaPost w s) := by
  have Hw := Lib.hid hw
  clear hw
  go_enter Tryz.func14, Tryz.ntmps14
  go_wp2_with fail
  refine (words_any _ s hl).mono ?_
  rintro e x1 ⟨D, v, rfl, hown, hB1, hD⟩
  obtain ⟨A, c, rfl, hS⟩ := row_sl hown
  have hr1 : x1.heap[w.heap.size]? = some (.cells (actV zAct nilV nilV).toArray 57 (0, 0)) := (hB1.block _ (by simp)).trans (heap_alloc_new _ _)
  have hBw : Below w.heap.size w x1 := ((Below.refl w.heap.size w).alloc (Nat.le_refl _) _).trans (hB1.mono (by simp))
  have hz1 : w.heap.size < x1.heap.size := lt_of_heap hr1
  have Hr1 := Lib.hid hr1
  have HB1 := Lib.hid hBw
  have HS1 := Lib.hid hS
  have HD := Lib.hid hD
  clear hr1 hBw hS hD hown hB1
  by_cases he : wordsErr (toL s) ≠ 0
  · --[A
    have heb : (wordsErr (toL s) == 0) = false := beq_eq_false_iff_ne.2 he
    have Hp := Lib.hid (parseA_err he)
    generalize wordsErr (toL s) = er at *
    clear he
    go_wp2_with (guard_target =~ wpList _ _ _ (Oper.mk _ (Op.store 57 _ _) _ _ _ _ :: _) _ _; refine wpList_store_row rfl 57 _ _ rfl w.heap.size (actV zAct nilV nilV).toArray rfl rfl 57 (actV zAct nilV nilV).toArray Hr1.out sizeAct rfl actZ_one ?_)
    refine bodyPost_ret (res_cell2 rfl _ _ w.heap.size 57 (actV zAct nilV nilV).toArray (0, 0) rfl (setRow_heap _ _ _ _ _ _ Hr1.out) Tryz.underlying57 rfl sizeAct) rfl ?_
    exact pa_zero Hp.out (below_row HB1.out (Nat.le_refl _) _)
    --]A
  have he0 : wordsErr (toL s) = 0 := Decidable.not_not.1 he
  have Hp0 := Lib.hid (parseA_ok he0)
  have HE0 := Lib.hid he0
  rw [he0]
  clear he he0
  go_wp2_with fail
  refine (find_any _ D A c HS1.out).mono ?_
  rintro e x2 ⟨hB2, hf⟩
  have hr2 : x2.heap[w.heap.size]? = some (.cells (actV zAct nilV nilV).toArray 57 (0, 0)) := (hB2.block _ hz1).trans Hr1.out
  have Hr2 := Lib.hid hr2
  have Hr2a : Hid (∀ o, (x2.alloc o).heap[w.heap.size]? = some (.cells (actV zAct nilV nilV).toArray 57 (0, 0))) := Lib.hid fun o => (Below.heap_alloc x2 o _ (lt_of_heap hr2)).trans hr2
  have HB2 := Lib.hid (HB1.out.trans (hB2.mono HB1.out.size))
  clear hr2 hB2
  cases hfd : findL FORMS (D.map toL) with
  | none =>
    --[A
    rw [hfd] at hf
    simp only at hf
    subst hf
    have Hp : Hid (parseA (toL s) = (zAct, 7)) := Lib.hid (by rw [Hp0.out, ← HD.out]; unfold parseW; rw [hfd])
    clear hfd
    go_wp2_with (first
      | (guard_target =~ wpList _ _ _ (Oper.mk _ (Op.store 84 _ _) _ _ _ _ :: _) _ _; refine wpList_store_new rfl 84 _ _ rfl x2.heap.size rfl (fmV zForm).toArray (fmV zForm).toArray 84 rfl rfl sizeForm rfl (all_oneCell_toArray (fm_one zForm)) ?_)
      | (guard_target =~ wpList _ _ _ (Oper.mk _ (Op.store 57 _ _) _ _ _ _ :: _) _ _; refine wpList_store_row rfl 57 _ _ rfl w.heap.size (actV zAct nilV nilV).toArray rfl rfl 57 (actV zAct nilV nilV).toArray (Hr2a.out _) sizeAct rfl actZ_one ?_))
    refine bodyPost_ret (res_cell2 rfl _ _ w.heap.size 57 (actV zAct nilV nilV).toArray (0, 0) rfl (setRow_heap _ _ _ _ _ _ (Hr2a.out _)) Tryz.underlying57 rfl sizeAct) rfl ?_
    exact pa_zero Hp.out (below_row (HB2.out.alloc HB2.out.size _) (Nat.le_refl _) _)
    --]A
  | some fk =>
    obtain ⟨f, k⟩ := fk
    rw [hfd] at hf
    obtain ⟨A2, c2, rfl, hS2⟩ := hf
    obtain ⟨D2, hD2⟩ : ∃ D2, D2 = D.drop k := ⟨_, rfl⟩
    rw [← hD2] at hS2 ⊢
    have HS2 := Lib.hid hS2
    have HD2 := Lib.hid hD2
    have Hfd := Lib.hid hfd
    clear hS2 hD2 hfd
    have hk0 : (fmV f).toArray[2]? = some (.int .i64 (f.kind : Nat)) := rfl
    have hk1 : (fmV f).toArray[3]? = some (.int .i64 (f.sub : Nat)) := rfl
    have hk2 : (fmV f).toArray[4]? = some (.string (mkS f.fields)) := rfl
    have H1f := Lib.hid (all_oneCell_toArray (fm_one f))
    have H6f : Hid ((Tryz.prog.info? 84).map (·.size) = some (fmV f).toArray.size) := Lib.hid sizeForm
    have H7f : Hid ((fmV zForm).toArray.size = (fmV f).toArray.size) := Lib.hid rfl
    generalize hVf : (fmV f).toArray = VF at *
    clear hVf
    by_cases hln : D2.length ≠ f.fields.length
    · --[A
      have hlb : ((D2.length : Int) != ((mkS f.fields).size : Int)) = true := by rw [bne_iff_ne, mkS_size]; omega
      have Hp : Hid (parseA (toL s) = (zAct, 14)) := Lib.hid (by rw [Hp0.out, ← HD.out]; unfold parseW; rw [Hfd.out]; simp only; rw [if_pos (by rw [← List.map_drop, List.length_map, ← HD2.out]; exact hln)])
      clear hln
      go_wp2_with (first
        | (guard_target =~ wpList _ _ _ (Oper.mk _ (Op.store 84 _ _) _ _ _ _ :: _) _ _; refine wpList_store_new rfl 84 _ _ rfl x2.heap.size rfl VF (fmV zForm).toArray 84 rfl rfl H6f.out H7f.out H1f.out ?_)
        | (guard_target =~ wpList _ _ _ (Oper.mk _ (Op.store 57 _ _) _ _ _ _ :: _) _ _; refine wpList_store_row rfl 57 _ _ rfl w.heap.size (actV zAct nilV nilV).toArray rfl rfl 57 (actV zAct nilV nilV).toArray (Hr2a.out _) sizeAct rfl actZ_one ?_))
      refine bodyPost_ret (res_cell2 rfl _ _ w.heap.size 57 (actV zAct nilV nilV).toArray (0, 0) rfl (setRow_heap _ _ _ _ _ _ (Hr2a.out _)) Tryz.underlying57 rfl sizeAct) rfl ?_
      exact pa_zero Hp.out (below_row (HB2.out.alloc HB2.out.size _) (Nat.le_refl _) _)
      --]A
    have hle : D2.length = f.fields.length := Decidable.not_not.1 hln
    have hlb : ((D2.length : Int) != ((mkS f.fields).size : Int)) = false := by rw [bne_eq_false_iff_eq, mkS_size]; omega
    have Hle := Lib.hid hle
    have Hpw : Hid (parseA (toL s) = match parseF f.fields (D2.map toL) (initA f, false) with
      | none => (zAct, 6)
      | some (a, syn) => if syn = true then (zAct, 11) else (a, 0)) := Lib.hid (by
        rw [Hp0.out, ← HD.out]
        unfold parseW
        rw [Hfd.out]
        simp only
        rw [if_neg (by rw [← List.map_drop, List.length_map, ← HD2.out]; exact hln), ← List.map_drop, ← HD2.out]
        rfl)
    clear hln hle
    go_wp2_with (first
      | (guard_target =~ wpList _ _ _ (Oper.mk _ (Op.store 84 _ _) _ _ _ _ :: _) _ _; refine wpList_store_new rfl 84 _ _ rfl x2.heap.size rfl VF (fmV zForm).toArray 84 rfl rfl H6f.out H7f.out H1f.out ?_)
      | (guard_target =~ wpList _ _ _ (Oper.mk _ (Op.store 57 _ _) _ _ _ _ :: _) _ _; refine wpList_store_new rfl 57 _ _ rfl (x2.alloc (.cells VF 84)).heap.size rfl (actV { zAct with kind := (f.kind : Nat) } nilV nilV).toArray (actV zAct nilV nilV).toArray 57 rfl rfl sizeAct rfl (all_oneCell_toArray (actV_one rfl rfl)) ?_))
    obtain ⟨x0, hx0⟩ : ∃ x0, x0 = ((x2.alloc (.cells VF 84)).alloc (.cells (actV (initA f) nilV nilV).toArray 57)).iter (mkS f.fields) 0 := ⟨_, rfl⟩
    have hB0 : Below x2.heap.size x2 x0 := by
      rw [hx0]
      exact (((Below.refl x2.heap.size x2).alloc (Nat.le_refl _) _).alloc (by simp) _).alloc (by simp; omega) _
    have hb0 : x0.heap[x2.heap.size + 1]? = some (.cells (actV (initA f) nilV nilV).toArray 57 (0, 0)) := by
      rw [hx0]
      unfold World.iter
      rw [heap_alloc_if, if_neg (by simp), heap_alloc_if, if_pos (by simp)]
    have hg0 : x0.heap[x2.heap.size + 1 + 1]? = some (.stringIter (mkS f.fields) 0) := by
      rw [hx0]
      unfold World.iter
      rw [heap_alloc_if, if_pos (by simp)]
    have hsh : (x2.alloc (.cells VF 84)).alloc (.cells (actV (initA f) nilV nilV).toArray 57) = (x2.alloc (.cells VF 84)).alloc (.cells #[.int .i64 (f.kind : Nat), .int .i64 (f.sub : Nat), .string ⟨#[]⟩, .string ⟨#[]⟩, .string ⟨#[]⟩, .slice none 0 0, .int .i64 0, .int .i64 0, .string ⟨#[]⟩, .int .i64 0, .int .i64 0, .int .i64 0, .slice none 0 0] 57) := rfl
    rw [hsh] at hx0
    rw [← hx0]
    have hz0 := lt_of_heap hg0
    obtain ⟨b, hb⟩ : ∃ b, b = x2.heap.size + 1 := ⟨_, rfl⟩
    obtain ⟨g, hg⟩ : ∃ g, g = x2.heap.size + 1 + 1 := ⟨_, rfl⟩
    have hbg : b ≠ g := by omega
    have hb2 : x2.heap.size ≤ b := by omega
    rw [← hg] at hg0 hz0 ⊢
    rw [← hb] at hb0 ⊢
    have HB0 := Lib.hid hB0
    have Hb0 := Lib.hid hb0
    have Hg0 := Lib.hid hg0
    have Hw0 := Lib.hid (Hw.out.below (HB2.out.trans (hB0.mono HB2.out.size)))
    have HS0 := Lib.hid (HS2.out.keep (Cells.of_below hB0))
    clear hB0 hb0 hg0 hx0 hsh
    have Hgb : Hid (g = b + 1) := Lib.hid (by omega)
    clear hg hb
    go_loopw [9] (fun sv wr => PaRel x0 b g f.fields (D2.map toL) (initA f, false) sv wr) (fun _ wr => f.fields.length - wr.iterPos g)
    case atStart => exact ⟨0, (initA f, false), nilV, nilV, by omega, rfl, rfl, Fr.refl _ _, Hb0.out, Hg0.out, Dat.nil _ _, Dat.nil _ _⟩
    case round =>
      obtain ⟨i, st, dv, fv, hi, hpf, rfl, hfr, hb, hg, hdv, hfv⟩ := hrel
      have Hpf := Lib.hid hpf
      clear hpf
      by_cases hlt : i < f.fields.length
      · have hltS : i < (mkS f.fields).size := by rw [mkS_size]; exact hlt
        have hcb := str_byte hltS
        rw [toL_mkS] at hcb
        obtain ⟨ch, hch⟩ : ∃ ch, ch = f.fields.getD i 0 := ⟨_, rfl⟩
        rw [← hch] at hcb
        have hasc : ch.toNat < 128 := forms_ascii (findL_mem Hfd.out) ch (by
          rw [hch, List.getD_eq_getElem?_getD, List.getElem?_eq_getElem hlt]
          exact List.getElem_mem hlt)
        have hnx := fun ty => run_next_at (P := Tryz.prog) ty hg hltS (by rw [hcb]; exact hasc)
        rw [hcb] at hnx
        have hltD : i < D2.length := by rw [Hle.out]; exact hlt
        obtain ⟨bw, ow, xi, hA2, hxi, hcw⟩ := str_at (w := x0) (x := D2) HS0.out hltD
        have hcw2 : ∃ v, x2.cell? ⟨bw, ow + i, none⟩ = some v := by
          obtain ⟨b2, o2, s2, h2, _, h3⟩ := str_at (w := x2) (x := D2) HS2.out hltD
          rw [hA2] at h2
          cases h2
          exact ⟨_, h3⟩
        have hbw : bw < x2.heap.size := by
          obtain ⟨v, hv⟩ := hcw2
          exact World.block_lt_of_cell? x2 _ hv
        have hg2 : g = b + 1 := Hgb.out
        have hbx := lt_of_heap Hb0.out
        have hgx := lt_of_heap Hg0.out
        obtain ⟨x3, hx3⟩ : ∃ x3, x3 = ChangeMaps.setBlock wr g (.stringIter (mkS f.fields) (i + 1)) := ⟨_, rfl⟩
        have hfr3 : Fr [b, g] x0 x3 := by rw [hx3]; exact hfr.trans (Fr.setBlock [b, g] wr g _ (by simp))
        have hb3 : x3.heap[b]? = some (.cells (actV st.1 dv fv).toArray 57 (0, 0)) := by rw [hx3, setBlock_other hbg]; exact hb
        have hg3 : x3.heap[g]? = some (.stringIter (mkS f.fields) (i + 1)) := by rw [hx3]; exact setBlock_same (lt_of_heap hg)
        have hdv3 : Dat x3 x0.heap.size dv st.1.data := by rw [hx3]; exact hdv.keep fun k hk _ => setBlock_other (by omega)
        have hfv3 : Dat x3 x0.heap.size fv st.1.fdata := by rw [hx3]; exact hfv.keep fun k hk _ => setBlock_other (by omega)
        have hcw3 : x3.cell? ⟨bw, ow + i, none⟩ = some (.string xi) := (World.cell?_of_block (hfr3.block bw (by omega) (by simp; omega))).trans hcw
        have hm0 : wr.iterPos g = i := by unfold World.iterPos; rw [hg]
        rw [← hx3] at hnx
        have hxl : (D2.map toL)[i]? = some (toL xi) := by rw [List.getElem?_map, hxi]; rfl
        have hxs : xi.size ≤ 1048576 := by
          have h2 : xi ∈ D := List.mem_of_mem_drop (HD2.out ▸ List.mem_of_getElem? hxi)
          have h3 := wordsOf_len (s := toL s) (x := toL xi) (by rw [← HD.out]; exact List.mem_map.2 ⟨_, h2, rfl⟩)
          rw [toL_len, toL_len] at h3
          omega
        have hirI : (0 : Int) ≤ i := by omega
        have hltI : (i : Int) < D2.length := by omega
        have hfin : ∀ (x4 : World) (a' : ActD) (syn : Bool) (dv' fv' : Value), stepF ch (toL xi) st = some (a', syn) → Fr [b, g] x0 x4 → x4.heap[b]? = some (.cells (actV a' dv' fv').toArray 57 (0, 0)) → x4.heap[g]? = some (.stringIter (mkS f.fields) (i + 1)) →
            Dat x4 x0.heap.size dv' a'.data → Dat x4 x0.heap.size fv' a'.fdata → PaRel x0 b g f.fields (D2.map toL) (initA f, false) (.bool syn) x4 ∧ f.fields.length - x4.iterPos g < f.fields.length - wr.iterPos g := fun x4 a' syn dv' fv' h1 h2 h3 h4 h5 h6 =>
          ⟨⟨i + 1, (a', syn), dv', fv', by omega, pa_next hlt hch hxl Hpf.out h1, rfl, h2, h3, h4, h5, h6⟩, by rw [hm0]; unfold World.iterPos; rw [h4]; simp only; omega⟩
        have h2w := lt_of_heap Hr2.out
        have Hr3 := Lib.hid ((hfr3.block w.heap.size (by omega) (by simp; omega)).trans ((HB0.out.block _ h2w).trans Hr2.out))
        have Hfin := Lib.hid hfin
        have Hfr3 := Lib.hid hfr3
        have Hb3 := Lib.hid hb3
        have Hg3 := Lib.hid hg3
        have Hdv3 := Lib.hid hdv3
        have Hfv3 := Lib.hid hfv3
        have Hch := Lib.hid hch
        have Hxl := Lib.hid hxl
        subst hA2
        clear hfin hfr3 hb3 hg3 hdv3 hfv3 hch hxl hcw2 hx3 hxi hcw hb hg hdv hfv hfr hcb hg2
        cases ht : tOff ch with
        | some o =>
          --[T
          have ho := off_lt (.inl ht)
          obtain ⟨hsa, hsd, hsf⟩ := actV_setT ht st.1 (toL xi) dv fv
          have hst : stepF ch (toL xi) st = some (setT ch (toL xi) st.1, st.2) := by unfold stepF; rw [ht]; rfl
          have hbo : bOff ch = none := by
            rcases tOff_cases ht with ⟨e, _⟩ | ⟨e, _⟩ | ⟨e, _⟩ | ⟨e, _⟩ <;> (unfold bOff; rw [e]; rfl)
          have hno : nOff ch = none := by
            rcases tOff_cases ht with ⟨e, _⟩ | ⟨e, _⟩ | ⟨e, _⟩ | ⟨e, _⟩ <;> (unfold nOff; rw [e]; rfl)
          have hk75 : ((ch.toNat : Int) == 75) = false := by
            rcases tOff_cases ht with ⟨e, _⟩ | ⟨e, _⟩ | ⟨e, _⟩ | ⟨e, _⟩ <;> (rw [e]; rfl)
          obtain ⟨old, hold⟩ : ∃ old, (actV st.1 dv fv)[o]? = some old := ⟨_, List.getElem?_eq_getElem (by simp [actV]; omega)⟩
          have hco : x3.cell? ⟨b, o, none⟩ = some old := ((blk_cells Hb3.out).1 o).trans (by rw [List.getElem?_toArray]; exact hold)
          have hfz := (blk_cells Hb3.out).2.1 o
          have hF := Hfin.out (x3.setCell ⟨b, o, none⟩ (.string xi)) (setT ch (toL xi) st.1) st.2 dv fv hst (Hfr3.out.trans (Fr.setCell [b, g] x3 ⟨b, o, none⟩ _ (by simp)))
            (by rw [heap_setCell_at Hb3.out, ← hsa, mkS_toL]; simp) (((Fr.setCell [b] x3 ⟨b, o, none⟩ _ (by simp)).block g (lt_of_heap Hg3.out) (by simp; omega)).trans Hg3.out) (by rw [hsd]; exact Hdv3.out.keep fun k hk h => (Fr.setCell [b] x3 ⟨b, o, none⟩ _ (by simp)).block k h (by simp; omega)) (by rw [hsf]; exact Hfv3.out.keep fun k hk h => (Fr.setCell [b] x3 ⟨b, o, none⟩ _ (by simp)).block k h (by simp; omega))
          have HF := Lib.hid hF
          have Ht := Lib.hid ht
          have Hbo := Lib.hid hbo
          have Hno := Lib.hid hno
          clear hF ht hbo hno hsa hsd hsf hst hold
          go_wp2_with fail
          refine (textOf_any b ch _).mono ?_
          rintro e w1 ⟨rfl, rfl⟩
          rw [Ht.out]
          simp only [Option.map_some]
          go_wp2_with fail
          refine (bytesOf_any b ch _).mono ?_
          rintro e w1 ⟨rfl, rfl⟩
          rw [Hbo.out]
          simp only [Option.map_none]
          go_wp2_with fail
          refine (numberOf_any b ch _).mono ?_
          rintro e w1 ⟨rfl, rfl⟩
          rw [Hno.out]
          simp only [Option.map_none]
          go_wp2_with fail
          exact HF.out
          --]T
        | none =>
        cases hbo : bOff ch with
        | some o =>
          --[B
          have ho := off_lt (.inr (.inl hbo))
          have hno : nOff ch = none := by
            rcases bOff_cases hbo with ⟨e, _⟩ | ⟨e, _⟩ <;> (unfold nOff; rw [e]; rfl)
          have hk75 : ((ch.toNat : Int) == 75) = false := by
            rcases bOff_cases hbo with ⟨e, _⟩ | ⟨e, _⟩ <;> (rw [e]; rfl)
          have hst : stepF ch (toL xi) st = some (setB ch (toL xi) st.1, st.2) := by unfold stepF; rw [ht, hbo]; rfl
          obtain ⟨v, x4, hcv, hdx, hB4⟩ := bytes_dat x3 xi hxs
          obtain ⟨A4, c4, hv4, _⟩ := hdx.form
          have hx4 := Hfr3.out.size
          have hfr4 : Fr [b, g] x0 x4 := Hfr3.out.trans (Fr.of_below hB4 _)
          have hb4 := (hB4.block b (lt_of_heap Hb3.out)).trans Hb3.out
          have hg4 := (hB4.block g (lt_of_heap Hg3.out)).trans Hg3.out
          have hdv4 := Hdv3.out.below hB4
          have hfv4 := Hfv3.out.below hB4
          have hdx4 := hdx.base hx4
          subst hv4
          obtain ⟨dv', fv', hsa, hsq⟩ := actV_setB hbo st.1 (toL xi) (.slice A4 (toL xi).length c4) dv fv
          obtain ⟨old, hold⟩ : ∃ old, (actV st.1 dv fv)[o]? = some old := ⟨_, List.getElem?_eq_getElem (by simp [actV]; omega)⟩
          have hco : x4.cell? ⟨b, o, none⟩ = some old := ((blk_cells hb4).1 o).trans (by rw [List.getElem?_toArray]; exact hold)
          have hfz := (blk_cells hb4).2.1 o
          have hkk : ∀ k, x0.heap.size ≤ k → k < x4.heap.size → (x4.setCell ⟨b, o, none⟩ (.slice A4 (toL xi).length c4)).heap[k]? = x4.heap[k]? := fun k hk h => (Fr.setCell [b] x4 ⟨b, o, none⟩ _ (by simp)).block k h (by simp; omega)
          obtain ⟨hq1, hq2⟩ := hsq (fun v l => Dat (x4.setCell ⟨b, o, none⟩ (.slice A4 (toL xi).length c4)) x0.heap.size v l) (hdv4.keep hkk) (hfv4.keep hkk) (hdx4.keep hkk)
          have hF := Hfin.out (x4.setCell ⟨b, o, none⟩ (.slice A4 (toL xi).length c4)) (setB ch (toL xi) st.1) st.2 dv' fv' hst (hfr4.trans (Fr.setCell [b, g] x4 ⟨b, o, none⟩ _ (by simp)))
            (by rw [heap_setCell_at hb4, ← hsa]; simp) (((Fr.setCell [b] x4 ⟨b, o, none⟩ _ (by simp)).block g (lt_of_heap hg4) (by simp; omega)).trans hg4) hq1 hq2
          have HF := Lib.hid hF
          have Ht := Lib.hid ht
          have Hbo := Lib.hid hbo
          have Hno := Lib.hid hno
          generalize (toL xi).length = ln at *
          clear hF ht hbo hno hsa hold hst hq1 hq2 hsq hkk hdx4 hfv4 hdv4 hg4 hb4 hfr4 hx4 hdx hB4
          go_wp2_with fail
          refine (textOf_any b ch _).mono ?_
          rintro e w1 ⟨rfl, rfl⟩
          rw [Ht.out]
          simp only [Option.map_none]
          go_wp2_with fail
          refine (bytesOf_any b ch _).mono ?_
          rintro e w1 ⟨rfl, rfl⟩
          rw [Hbo.out]
          simp only [Option.map_some]
          go_wp2_with fail
          refine (numberOf_any b ch _).mono ?_
          rintro e w1 ⟨rfl, rfl⟩
          rw [Hno.out]
          simp only [Option.map_none]
          go_wp2_with fail
          exact HF.out
          --]B
        | none =>
        cases hno : nOff ch with
        | some o =>
          --[N
          have ho := off_lt (.inr (.inr hno))
          have hk75 : ((ch.toNat : Int) == 75) = false := by
            rcases nOff_cases hno with ⟨e, _⟩ | ⟨e, _⟩ | ⟨e, _⟩ | ⟨e, _⟩ <;> (rw [e]; rfl)
          have hst : stepF ch (toL xi) st = (numP (toL xi)).map fun n => (setN ch n st.1, st.2) := by unfold stepF; rw [ht, hbo, hno]; rfl
          have hBx3 : Below w.heap.size w x3 := (HB2.out.trans (HB0.out.mono HB2.out.size)).trans (Hfr3.out.below (Nat.le_trans HB2.out.size HB0.out.size) (by
            have h1 := HB2.out.size
            have h2 := Hgb.out
            intro k hk
            simp only [List.mem_cons, List.not_mem_nil, or_false] at hk
            omega))
          have HBx3 := Lib.hid hBx3
          have Hst := Lib.hid hst
          have Ht := Lib.hid ht
          have Hbo := Lib.hid hbo
          have Hno := Lib.hid hno
          clear hst ht hbo hno hBx3
          go_wp2_with fail
          refine (textOf_any b ch _).mono ?_
          rintro e w1 ⟨rfl, rfl⟩
          rw [Ht.out]
          simp only [Option.map_none]
          go_wp2_with fail
          refine (bytesOf_any b ch _).mono ?_
          rintro e w1 ⟨rfl, rfl⟩
          rw [Hbo.out]
          simp only [Option.map_none]
          go_wp2_with fail
          refine (numberOf_any b ch _).mono ?_
          rintro e w1 ⟨rfl, rfl⟩
          rw [Hno.out]
          simp only [Option.map_some]
          go_wp2_with fail
          refine (number_any xi hxs (Hw.out.below HBx3.out)).mono ?_
          rintro e x4 ⟨hB4, n, ok, rfl, hn⟩
          have hfr4 : Fr [b, g] x0 x4 := Hfr3.out.trans (Fr.of_below hB4 _)
          have hb4 := (hB4.block b (lt_of_heap Hb3.out)).trans Hb3.out
          have hg4 := (hB4.block g (lt_of_heap Hg3.out)).trans Hg3.out
          have hdv4 := Hdv3.out.below hB4
          have hfv4 := Hfv3.out.below hB4
          have hx4 := Hfr3.out.size
          cases ok with
          | true =>
            rw [if_pos rfl] at hn
            have hst : stepF ch (toL xi) st = some (setN ch n st.1, st.2) := by rw [Hst.out, hn]; rfl
            obtain ⟨hsa, hsd, hsf⟩ := actV_setN Hno.out st.1 n dv fv
            obtain ⟨old, hold⟩ : ∃ old, (actV st.1 dv fv)[o]? = some old := ⟨_, List.getElem?_eq_getElem (by simp [actV]; omega)⟩
            have hco : x4.cell? ⟨b, o, none⟩ = some old := ((blk_cells hb4).1 o).trans (by rw [List.getElem?_toArray]; exact hold)
            have hfz := (blk_cells hb4).2.1 o
            have hkk : ∀ k, x0.heap.size ≤ k → k < x4.heap.size → (x4.setCell ⟨b, o, none⟩ (.int .i64 n)).heap[k]? = x4.heap[k]? := fun k hk h => (Fr.setCell [b] x4 ⟨b, o, none⟩ _ (by simp)).block k h (by simp; omega)
            have hF := Hfin.out (x4.setCell ⟨b, o, none⟩ (.int .i64 n)) (setN ch n st.1) st.2 dv fv hst (hfr4.trans (Fr.setCell [b, g] x4 ⟨b, o, none⟩ _ (by simp)))
              (by rw [heap_setCell_at hb4, ← hsa]; simp) (((Fr.setCell [b] x4 ⟨b, o, none⟩ _ (by simp)).block g (lt_of_heap hg4) (by simp; omega)).trans hg4) (by rw [hsd]; exact hdv4.keep hkk) (by rw [hsf]; exact hfv4.keep hkk)
            have HF := Lib.hid hF
            clear hF hkk hold hsa hsd hsf hst hn hx4 hfv4 hdv4 hg4 hb4 hfr4 hB4
            go_wp2_with fail
            exact HF.out
          | false =>
            rw [if_neg (by decide)] at hn
            have Hp : Hid (parseA (toL s) = (zAct, 6)) := Lib.hid (by rw [Hpw.out, pa_fail hlt Hch.out Hxl.out Hpf.out (by rw [Hst.out, hn]; rfl)])
            have hrr : x4.heap[w.heap.size]? = some (.cells (actV zAct nilV nilV).toArray 57 (0, 0)) := (hB4.block _ (lt_of_heap Hr3.out)).trans Hr3.out
            have HRR := Lib.hid hrr
            have HB4 := Lib.hid (HBx3.out.trans (hB4.mono HBx3.out.size))
            clear hrr hn hx4 hfv4 hdv4 hg4 hb4 hfr4 hB4
            go_wp2_with (guard_target =~ wpList _ _ _ (Oper.mk _ (Op.store 57 _ _) _ _ _ _ :: _) _ _; refine wpList_store_row rfl 57 _ _ rfl w.heap.size (actV zAct nilV nilV).toArray rfl rfl 57 (actV zAct nilV nilV).toArray HRR.out sizeAct rfl actZ_one ?_)
            refine bodyPost_ret (res_cell2 rfl _ _ w.heap.size 57 (actV zAct nilV nilV).toArray (0, 0) rfl (setRow_heap _ _ _ _ _ _ HRR.out) Tryz.underlying57 rfl sizeAct) rfl ?_
            exact pa_zero Hp.out (below_row HB4.out (Nat.le_refl _) _)
          --]N
        | none =>
        have hst : stepF ch (toL xi) st = if ch.toNat = 75 then some ({ st.1 with fk := newK st.1.fk (toL xi) }, decide (newK st.1.fk (toL xi) = 0)) else some st := by unfold stepF; rw [ht, hbo, hno]; rfl
        have Ht := Lib.hid ht
        have Hbo := Lib.hid hbo
        have Hno := Lib.hid hno
        clear ht hbo hno
        by_cases h75 : ch.toNat ≠ 75
        · --[O
          have hk75 : ((ch.toNat : Int) == 75) = false := ne_beq h75
          have HF := Lib.hid (Hfin.out x3 st.1 st.2 dv fv (by rw [hst, if_neg h75]) Hfr3.out Hb3.out Hg3.out Hdv3.out Hfv3.out)
          clear hst h75
          go_wp2_with fail
          refine (textOf_any b ch _).mono ?_
          rintro e w1 ⟨rfl, rfl⟩
          rw [Ht.out]
          simp only [Option.map_none]
          go_wp2_with fail
          refine (bytesOf_any b ch _).mono ?_
          rintro e w1 ⟨rfl, rfl⟩
          rw [Hbo.out]
          simp only [Option.map_none]
          go_wp2_with fail
          refine (numberOf_any b ch _).mono ?_
          rintro e w1 ⟨rfl, rfl⟩
          rw [Hno.out]
          simp only [Option.map_none]
          go_wp2_with fail
          exact HF.out
          --]O
        · --[K
          have h75 := Decidable.not_not.1 h75
          have hk75 : ((ch.toNat : Int) == 75) = true := by rw [h75]; rfl
          have Hst : Hid (stepF ch (toL xi) st = some ({ st.1 with fk := newK st.1.fk (toL xi) }, decide (newK st.1.fk (toL xi) = 0))) := Lib.hid (by rw [hst, if_pos h75])
          clear hst h75
          go_wp2_with fail
          refine (textOf_any b ch _).mono ?_
          rintro e w1 ⟨rfl, rfl⟩
          rw [Ht.out]
          simp only [Option.map_none]
          go_wp2_with fail
          refine (bytesOf_any b ch _).mono ?_
          rintro e w1 ⟨rfl, rfl⟩
          rw [Hbo.out]
          simp only [Option.map_none]
          go_wp2_with fail
          refine (numberOf_any b ch _).mono ?_
          rintro e w1 ⟨rfl, rfl⟩
          rw [Hno.out]
          simp only [Option.map_none]
          go_wp2_with fail
          refine (faults_any _).mono ?_
          rintro e x4 ⟨mb, rfl, hown, hmb, hB4⟩
          have Hown := Lib.hid hown
          clear hown
          have h3s := Hfr3.out.size
          have h4s := hB4.size
          have Hfr4 := Lib.hid (Hfr3.out.trans (Fr.of_below hB4 [b, g]))
          have Hb4 := Lib.hid ((hB4.block b (lt_of_heap Hb3.out)).trans Hb3.out)
          have Hg4 := Lib.hid ((hB4.block g (lt_of_heap Hg3.out)).trans Hg3.out)
          have Hdv4 := Lib.hid (Hdv3.out.below hB4)
          have Hfv4 := Lib.hid (Hfv3.out.below hB4)
          clear hnx hB4 hcw3 hm0
          go_wp2_with (first | (at_range; refine wpList_range_own _ rfl _ 93 rfl 3 9 intK Tryz.underlying93 (plainElem Tryz.prog 9) mb 7 KD rfl Hown.out ?_; intro x5 hrg5 hg5 hs5))
          go_frame
          have hx5 : Fr [b, g] x0 x5 := Hfr4.out.trans ((Fr.of_grown hg5).more (by simp))
          have hb4l := lt_of_heap Hb4.out
          have hg4l := lt_of_heap Hg4.out
          have hb5 := (hg5.block b hb4l (by simp)).trans Hb4.out
          have hg5g := (hg5.block g hg4l (by simp)).trans Hg4.out
          have Hg45 : Hid (∀ k, k < x4.heap.size → x5.heap[k]? = x4.heap[k]?) := Lib.hid fun k hk => hg5.block k hk (by simp)
          obtain ⟨rr, hrr⟩ : ∃ rr, rr = x4.heap.size := ⟨_, rfl⟩
          rw [← hrr] at hrg5 ⊢
          have hrb : rr ≠ b := by omega
          have hrg : rr ≠ g := by omega
          have hmbb : mb ≠ b := by omega
          have hmbg : mb ≠ g := by omega
          have hmr : mb ≠ rr := fun e => hrg5.ne e.symm
          have h5s := hg5.size
          have Hat : Hid (KRel x5 b rr mb st.1 dv fv (toL xi) x5) := Lib.hid ⟨_, _, st.1.fk, hrg5, KSt.start _ _, Fr.refl _ _, hb5⟩
          have Hx5 := Lib.hid hx5
          have Hg5 := Lib.hid hg5g
          have hrl : x0.heap.size ≤ rr := by omega
          have hr4 : x4.heap.size ≤ rr := by omega
          clear hx5 hb5 hg5g hrg5 hg5 hs5 hrr
          go_loopw [18, 19] (fun _ _ wy => KRel x5 b rr mb st.1 dv fv (toL xi) wy) (fun _ _ wy => wy.rangeLeft mb rr)
          case atStart => exact Hat.out
          case round =>
            obtain ⟨left, cnt, fk, hrg, hks, hfr, hb⟩ := hrel
            have HL := Lib.hid hrg.left_eq
            have Hks := Lib.hid hks
            have Hfr := Lib.hid hfr
            have Hb := Lib.hid hb
            clear hks hfr hb Hat
            go_wp2_with (first
              | (at_next; refine wpList_next_ranges _ rfl _ rfl 3 intK (plainElem Tryz.prog 9) (Value.int .i64) Value.string intInv1 strInv1 mb rr 7 _ _ _ rfl hrg ?_ ?_))
            · intro hc0 hl0
              have hfk := Hks.out.done hl0
              have c10 : wr.cell? ⟨b, 10, none⟩ = some (.int .i64 fk) := ((blk_cells Hb.out).1 10).trans rfl
              have hkk : ∀ k, x0.heap.size ≤ k → k < x4.heap.size → wr.heap[k]? = x4.heap[k]? := fun k h1 h2 => (Hfr.out.block k (by omega) (by simp; omega)).trans (Hg45.out k h2)
              have hF := Hfin.out wr { st.1 with fk := fk } (fk == 0) dv fv (by rw [Hst.out, hfk]; rfl) (Hx5.out.fresh hrl (Hfr.out.more (by intro k hk; simp at hk ⊢; omega))) Hb.out ((Hfr.out.block g (by omega) (by simp; omega)).trans Hg5.out) (Hdv4.out.keep hkk) (Hfv4.out.keep hkk)
              have HF := Lib.hid hF
              clear hF hkk hfk hrg hc0 hl0
              go_wp2_with fail
              exact HF.out
            · intro x c kl y yp w6 cnt6 hkey hlk hv hat hrg6 hlt6 hg6 hs6 hen
              obtain ⟨x', ex, hkl, _⟩ := Maps.keyOf_int_inv Tryz.underlying3 hkey
              cases ex
              subst hkl
              obtain ⟨c', ec, ey⟩ := strInv0 hv
              cases ec
              cases ey
              have hin := kd_at hat
              have hfr6 : Fr [b, rr] x5 w6 := Hfr.out.trans ((Fr.of_grown hg6).more (by simp))
              have hbl := lt_of_heap Hb.out
              have hb6 := (hg6.block b hbl (by simp; omega)).trans Hb.out
              have hseq := str_eq c xi
              by_cases hcx : toL c = toL xi
              · have heq : c = xi := toL_inj hcx
                rw [decide_eq_true heq] at hseq
                have c10 : w6.cell? ⟨b, 10, none⟩ = some (.int .i64 fk) := ((blk_cells hb6).1 10).trans rfl
                have hfz := (blk_cells hb6).2.1 10
                have hF : KRel x5 b rr mb st.1 dv fv (toL xi) (w6.setCell ⟨b, 10, none⟩ (.int .i64 x)) ∧ (w6.setCell ⟨b, 10, none⟩ (.int .i64 x)).rangeLeft mb rr < wr.rangeLeft mb rr := by
                  have hrg7 := hrg6.kept (grown_of_fr (Fr.setCell [b] w6 ⟨b, 10, none⟩ (.int .i64 x) (by simp))) (by simp; omega) (by simp; omega)
                  refine ⟨⟨_, _, x, hrg7, KSt.yes hin hcx, hfr6.trans (Fr.setCell [b, rr] w6 ⟨b, 10, none⟩ _ (by simp)), ?_⟩, ?_⟩
                  · rw [heap_setCell_at hb6]
                    simp [actV]
                  · rw [hrg7.left_eq, HL.out]
                    exact hlt6
                have HF := Lib.hid hF
                clear hF hb6 hfr6 hin heq hcx hrg6 hg6 hs6 hkey hlk hv hat hrg
                go_wp2_with fail
                exact HF.out
              · have hne : ¬ c = xi := fun e => hcx (by rw [e])
                rw [decide_eq_false hne] at hseq
                have HF : Hid (KRel x5 b rr mb st.1 dv fv (toL xi) w6 ∧ w6.rangeLeft mb rr < wr.rangeLeft mb rr) := Lib.hid ⟨⟨_, _, fk, hrg6, Hks.out.no hin hcx, hfr6, hb6⟩, by rw [hrg6.left_eq, HL.out]; exact hlt6⟩
                clear hb6 hfr6 hin hcx hrg6 hg6 hs6 hkey hlk hv hat hrg hne
                go_wp2_with fail
                exact HF.out
          --]K
      · --[E
        have hie : i = f.fields.length := by omega
        have hge : ¬ i < (mkS f.fields).size := by rw [mkS_size]; omega
        have hnx := fun ty => run_next_end_at (P := Tryz.prog) ty hg hge
        have hpe : parseF f.fields (D2.map toL) (initA f, false) = some st := by
          rw [Hpf.out, hie, List.drop_of_length_le (Nat.le_refl _)]
          rfl
        have hBx : Below w.heap.size w wr := (HB2.out.trans (HB0.out.mono HB2.out.size)).trans (hfr.below (Nat.le_trans HB2.out.size HB0.out.size) (by
          have h1 := HB2.out.size
          have h2 := Hgb.out
          intro k hk
          simp only [List.mem_cons, List.not_mem_nil, or_false] at hk
          omega))
        have h2w := lt_of_heap Hr2.out
        have hbx := lt_of_heap Hb0.out
        have hx2 := HB0.out.size
        have hx0 := HB2.out.size
        have hg2 := Hgb.out
        have hrr : wr.heap[w.heap.size]? = some (.cells (actV zAct nilV nilV).toArray 57 (0, 0)) := (hfr.block w.heap.size (by omega) (by simp; omega)).trans ((HB0.out.block _ h2w).trans Hr2.out)
        have HRR := Lib.hid hrr
        have HBx := Lib.hid hBx
        have Hdv := Lib.hid (hdv.base (base' := w.heap.size + 1) (by omega))
        have Hfv := Lib.hid (hfv.base (base' := w.heap.size + 1) (by omega))
        have Hbb := Lib.hid hb
        have Hpe := Lib.hid hpe
        have H1a := Lib.hid (all_oneCell_toArray (actV_one (a := st.1) hdv.one hfv.one))
        obtain ⟨a, syn⟩ := st
        clear hrr hBx hdv hfv hb hpe hfr hg hi hlt hie hge h2w hbx hx2 hx0 hg2
        cases syn with
        | true =>
          have Hp : Hid (parseA (toL s) = (zAct, 11)) := Lib.hid (by rw [Hpw.out, Hpe.out]; rfl)
          go_wp2_with (guard_target =~ wpList _ _ _ (Oper.mk _ (Op.store 57 _ _) _ _ _ _ :: _) _ _; refine wpList_store_row rfl 57 _ _ rfl w.heap.size (actV zAct nilV nilV).toArray rfl rfl 57 (actV zAct nilV nilV).toArray HRR.out sizeAct rfl actZ_one ?_)
          refine bodyPost_ret (res_cell2 rfl _ _ w.heap.size 57 (actV zAct nilV nilV).toArray (0, 0) rfl (setRow_heap _ _ _ _ _ _ HRR.out) Tryz.underlying57 rfl sizeAct) rfl ?_
          exact pa_zero Hp.out (below_row HBx.out (Nat.le_refl _) _)
        | false =>
          have Hp : Hid (parseA (toL s) = (a, 0)) := Lib.hid (by rw [Hpw.out, Hpe.out]; rfl)
          go_wp2_with (first
            | (guard_target =~ wpList _ _ _ (Oper.mk _ (Op.load 57 _) _ _ _ _ :: _) _ _; refine wpList_load_row rfl 57 _ rfl b rfl 57 (actV a dv fv).toArray (0, 0) _ Hbb.out Tryz.underlying57 rfl sizeAct ?_)
            | (guard_target =~ wpList _ _ _ (Oper.mk _ (Op.store 57 _ _) _ _ _ _ :: _) _ _; refine wpList_store_row rfl 57 _ _ rfl w.heap.size (actV a dv fv).toArray rfl rfl 57 (actV zAct nilV nilV).toArray HRR.out sizeAct rfl H1a.out ?_))
          refine bodyPost_ret (res_cell2 rfl _ _ w.heap.size 57 (actV a dv fv).toArray (0, 0) rfl (setRow_heap _ _ _ _ _ _ HRR.out) Tryz.underlying57 rfl sizeAct) rfl ?_
          exact ⟨a, dv, fv, by rw [Hp.out]; rfl, by rw [Hp.out], (Hdv.out.row (by omega) _).base (by omega), (Hfv.out.row (by omega) _).base (by omega), below_row HBx.out (Nat.le_refl _) _⟩
        --]E
end Go.Proofs.YtlljjddgbilipaaGreatDoor
