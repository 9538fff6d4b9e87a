/-
  The law TextBlanks: what it answers.
-/
import Derived.Test.YtbmnbhammganfaaDoorTxBox
import Derived.Test.YtbmnbhammganfaaDoorTxTbp
import Derived.Test.YtbmnbhammganfaaDoorTxTw
namespace Go.Proofs.YtbmnbhammganfaaDoor
open Go.RowKit Go.Maps

set_option linter.unusedSimpArgs false

attribute [local go_sem] lt1 lt2 lt3 lt4 lt5 lt6

def BlRel (w : World) (D : List ByteArray) (sv iv : Value) (wr : World) : Prop := ∃ (i : Nat) (S : ByteArray), i ≤ D.length ∧ iv = .int .i64 i ∧ sv = .string S ∧ S = mkS (wideL ((D.take i).map toL)) ∧ Below w.heap.size w wr
set_option maxRecDepth 100000 in
set_option maxHeartbeats 8000000 in
theorem textBlanks_any (s : ByteArray) (w : World) (hw : Lw w) : Calls Tryd.prog 6 #[.string s] w (LawPost w) := by
  have Hf := Lib.hid (first_any w hw)
  have Hw := Lib.hid hw
  clear hw
  by_cases hs : 2000 < s.size
  · have hI : (2000 : Int) < s.size := by omega
    go_enter Tryd.func6, Tryd.ntmps6
    go_wp2_with fail
    refine Hf.out.mono ?_
    rintro e w1 ⟨rfl, hB⟩
    have HB := Lib.hid hB
    clear hB
    go_wp2_with fail
    go_ret
    exact ⟨rfl, HB.out⟩
  have hI : ¬ (2000 : Int) < s.size := by omega
  have Hs := Lib.hid (show s.size ≤ 2000 by omega)
  clear hs
  go_enter Tryd.func6, Tryd.ntmps6
  go_wp2_with fail
  refine Hf.out.mono ?_
  rintro e x1 ⟨rfl, hB⟩
  have HB1 := Lib.hid hB
  clear hB Hf
  go_wp2_with fail
  refine (parse_box s (by have := Hs.out; omega) (Hw.out.below HB1.out)).mono ?_
  rintro e x2 ⟨V1, rfl, hV1, hB2⟩
  have HV1 := Lib.hid hV1
  have HB2 := Lib.hid (HB1.out.trans (hB2.mono HB1.out.size))
  clear hV1 hB2
  obtain ⟨er, her⟩ : ∃ er, er = (parseA (toL s)).2 := ⟨_, rfl⟩
  rw [← her]
  have Her := Lib.hid her
  clear her
  go_wp2_with ((with_reducible refine at_store 28 ?_); refine wpList_store_new rfl 28 _ _ rfl x2.heap.size rfl V1 (actV zAct nilV nilV).toArray 28 rfl rfl HV1.out.size HV1.out.zsize HV1.out.one ?_)
  have HB3 := Lib.hid (HB2.out.alloc HB2.out.size (.cells V1 28))
  have HW1 := Lib.hid (HV1.out.keep (Cells.alloc x2 (.cells V1 28)))
  have hv1 : (x2.alloc (.cells V1 28)).heap[x2.heap.size]? = some (.cells V1 28 (0, 0)) := heap_alloc_new _ _
  generalize (x2.alloc (.cells V1 28)) = x3 at *
  obtain ⟨b1, hb1⟩ : ∃ b1, b1 = x2.heap.size := ⟨_, rfl⟩
  rw [← hb1] at hv1 ⊢
  have Hv1 := Lib.hid hv1
  clear hv1 hb1
  obtain ⟨s2, hs2⟩ : ∃ s2, s2 = ((⟨#[32, 32]⟩ : ByteArray) ++ s ++ ⟨#[32]⟩) := ⟨_, rfl⟩
  rw [← hs2]
  have hl2 : toL s2 = 32 :: 32 :: (toL s ++ [32]) := by rw [hs2, toL_append, toL_append]; rfl
  have hz2 : s2.size ≤ 2003 := by rw [← toL_len, hl2]; have := Hs.out; rw [← toL_len] at this; simp; omega
  have hp2 : parseA (toL s2) = parseA (toL s) := (ends_words (by rw [toL_len]; have := Hs.out; omega) (by rw [toL_len]; omega) (by rw [hl2, wordsL_blank, wordsL_blank, wordsL_behind])).2.2
  clear hs2 hl2
  refine (parse_box s2 (by omega) (Hw.out.below HB3.out)).mono ?_
  rintro e x4 ⟨V2, rfl, hV2, hB4⟩
  rw [hp2] at hV2 ⊢
  rw [← Her.out]
  have HV2 := Lib.hid hV2
  have HB4 := Lib.hid (HB3.out.trans (hB4.mono HB3.out.size))
  have HW2 := Lib.hid (HW1.out.keep (Cells.of_below hB4))
  have Hv2 := Lib.hid ((hB4.block b1 (lt_of_heap Hv1.out)).trans Hv1.out)
  clear hV2 hB4 hp2 hz2 HW1 Hv1
  go_wp2_with ((with_reducible refine at_store 28 ?_); refine wpList_store_new rfl 28 _ _ rfl x4.heap.size rfl V2 (actV zAct nilV nilV).toArray 28 rfl rfl HV2.out.size HV2.out.zsize HV2.out.one ?_)
  have HB5 := Lib.hid (HB4.out.alloc HB4.out.size (.cells V2 28))
  have HW5 := Lib.hid (HW2.out.keep (Cells.alloc x4 (.cells V2 28)))
  have HU5 := Lib.hid (HV2.out.keep (Cells.alloc x4 (.cells V2 28)))
  have hv5 : (x4.alloc (.cells V2 28)).heap[b1]? = some (.cells V1 28 (0, 0)) := (Below.heap_alloc _ _ _ (lt_of_heap Hv2.out)).trans Hv2.out
  have hu5 : (x4.alloc (.cells V2 28)).heap[x4.heap.size]? = some (.cells V2 28 (0, 0)) := heap_alloc_new _ _
  generalize (x4.alloc (.cells V2 28)) = x5 at *
  obtain ⟨b2, hb2⟩ : ∃ b2, b2 = x4.heap.size := ⟨_, rfl⟩
  rw [← hb2] at hu5 ⊢
  have Hv5 := Lib.hid hv5
  have Hu5 := Lib.hid hu5
  clear hv5 hu5 hb2 HW2 Hv2
  refine (words_any _ s (by have := Hs.out; omega)).mono ?_
  rintro e x6 ⟨D, v, rfl, hown, hB6, hD⟩
  obtain ⟨A, c, rfl, hS⟩ := row_sl hown
  have HB6 := Lib.hid (HB5.out.trans (hB6.mono HB5.out.size))
  have HS6 := Lib.hid hS
  have HD := Lib.hid hD
  have HW6 := Lib.hid (HW5.out.keep (Cells.of_below hB6))
  have HU6 := Lib.hid (HU5.out.keep (Cells.of_below hB6))
  have Hv6 := Lib.hid ((hB6.block b1 (lt_of_heap Hv5.out)).trans Hv5.out)
  have Hu6 := Lib.hid ((hB6.block b2 (lt_of_heap Hu5.out)).trans Hu5.out)
  clear hown hS hB6 hD HW5 HU5 Hv5 Hu5
  obtain ⟨eg, heg⟩ : ∃ eg, eg = wordsErr (toL s) := ⟨_, rfl⟩
  rw [← heg]
  have Heg := Lib.hid heg
  clear heg
  go_wp2_with fail
  obtain ⟨s3, hs3⟩ : ∃ s3, s3 = ((⟨#[32]⟩ : ByteArray) ++ s ++ ⟨#[32, 32, 32]⟩) := ⟨_, rfl⟩
  rw [← hs3]
  have hl3 : toL s3 = 32 :: (toL s ++ [32] ++ [32] ++ [32]) := by rw [hs3, toL_append, toL_append]; simp [toL]
  have hz3 : s3.size ≤ 2004 := by rw [← toL_len, hl3]; have := Hs.out; rw [← toL_len] at this; simp; omega
  have hp3 := ends_words (s := toL s) (t := toL s3) (by rw [toL_len]; have := Hs.out; omega) (by rw [toL_len]; omega) (by rw [hl3, wordsL_blank, wordsL_behind, wordsL_behind, wordsL_behind])
  clear hs3 hl3
  refine (words_any _ s3 (by omega)).mono ?_
  rintro e x7 ⟨D2, v2, rfl, hown, hB7, hD⟩
  obtain ⟨A2, c2, rfl, hS⟩ := row_sl hown
  rw [hp3.1, ← Heg.out]
  have hDD : D = D2 := by rw [map_mkS _ _ HD.out, map_mkS _ _ hD, hp3.2.1]
  subst hDD
  have HB7 := Lib.hid (HB6.out.trans (hB7.mono HB6.out.size))
  have HS7 := Lib.hid (HS6.out.keep (Cells.of_below hB7))
  have HT7 := Lib.hid hS
  have HW7 := Lib.hid (HW6.out.keep (Cells.of_below hB7))
  have HU7 := Lib.hid (HU6.out.keep (Cells.of_below hB7))
  have Hv7 := Lib.hid ((hB7.block b1 (lt_of_heap Hv6.out)).trans Hv6.out)
  have Hu7 := Lib.hid ((hB7.block b2 (lt_of_heap Hu6.out)).trans Hu6.out)
  clear hown hS hB7 hD HW6 HU6 Hv6 Hu6 hp3 hz3 HS6
  obtain ⟨v0, v1, v2, v3, v4, v5, v6, v7, v8, v9, v10, v11, v12, rfl⟩ := HW7.out.lit
  obtain ⟨u0, u1, u2, u3, u4, u5, u6, u7, u8, u9, u10, u11, u12, rfl⟩ := HU7.out.lit
  obtain ⟨p0, p1, p2, p3, p4, p5, p6, p7, p8, p9, p10, p11, p12⟩ := row13 Hv7.out
  obtain ⟨q0, q1, q2, q3, q4, q5, q6, q7, q8, q9, q10, q11, q12⟩ := row13 Hu7.out
  go_wp2_with fail
  clear p0 q0 p1 q1 p2 q2 p3 q3 p4 q4 p5 q5 p6 q6 p7 q7 p8 q8 p9 q9 p10 q10 p11 q11 p12 q12
  refine (HW7.out.alike HU7.out).mono ?_
  rintro e x8 ⟨rfl, hB8⟩
  have HB8 := Lib.hid (HB7.out.trans (hB8.mono HB7.out.size))
  have HS8 := Lib.hid (HS7.out.keep (Cells.of_below hB8))
  have HT8 := Lib.hid (HT7.out.keep (Cells.of_below hB8))
  have HW8 := Lib.hid (HW7.out.keep (Cells.of_below hB8))
  have Hv8 := Lib.hid ((hB8.block b1 (lt_of_heap Hv7.out)).trans Hv7.out)
  clear hB8 HS7 HT7 HW7 HU7 Hv7 Hu7
  go_wp2_with fail
  refine (texts_self D A A2 c c2 _ HS8.out HT8.out).mono ?_
  rintro e x9 ⟨rfl, hB9⟩
  have HB9 := Lib.hid (HB8.out.trans (hB9.mono HB8.out.size))
  have HS9 := Lib.hid (HS8.out.keep (Cells.of_below hB9))
  have HW9 := Lib.hid (HW8.out.keep (Cells.of_below hB9))
  have Hv9 := Lib.hid ((hB9.block b1 (lt_of_heap Hv8.out)).trans Hv8.out)
  clear hB9 HS8 HT8 HW8 Hv8
  by_cases h0 : eg = 0
  · subst h0
    have Hwd := Lib.hid (wide_words (s := toL s) (by rw [toL_len]; exact Hs.out) Heg.out.symm)
    have HDw : Hid (∀ p ∈ D, p.size ≤ 2000) := Lib.hid fun p hp => by
      have h1 : toL p ∈ wordsOf (toL s) := by rw [← HD.out]; exact List.mem_map_of_mem hp
      have h2 := wordsOf_len h1
      rw [toL_len, toL_len] at h2
      exact Nat.le_trans h2 Hs.out
    have hdl : D.length ≤ 9223372036854775807 := by have a := HS9.out.le; have b := HS9.out.big; unfold maxLen at b; omega
    go_wp2_with (first | (go_at_call 11; refine (num_any _ _).mono ?_; rintro e w' ⟨rfl, rfl⟩))
    go_loopw [12, 13] (fun sv iv wr => BlRel x9 D sv iv wr) (fun _ iv _ => D.length - (intOf iv).toNat)
    case atStart => exact ⟨0, ⟨#[]⟩, Nat.zero_le _, rfl, rfl, rfl, Below.refl _ _⟩
    case round =>
      obtain ⟨i, S, hi, rfl, rfl, hS, hB⟩ := hrel
      have HS := Lib.hid hS
      have HB := Lib.hid hB
      clear hS hB
      by_cases hlt : i < D.length
      · obtain ⟨ba, oa, p, rfl, hp, g1⟩ := str_at (HS9.out.keep (Cells.of_below HB.out)) hlt
        have hltI : (i : Int) < D.length := by omega
        have Hp := Lib.hid hp
        have hps : p.size ≤ 2000 := HDw.out p (List.mem_of_getElem? hp)
        have hSz : S.size ≤ 22000 := by
          have h1 := Hwd.out.2.2.2 i
          rw [← HD.out, ← List.map_take] at h1
          rw [← toL_len, HS.out, toL_mkS]
          exact h1
        clear hp
        go_wp2_with fail
        refine (quote_ref _ p (by omega)).mono ?_
        rintro e y1 ⟨rfl, hB1⟩
        have HB1' := Lib.hid (HB.out.trans (hB1.mono HB.out.size))
        obtain ⟨Q, hQ⟩ : ∃ Q, Q = mkS (quoteL (toL p)) := ⟨_, rfl⟩
        rw [← hQ]
        have hQz : Q.size ≤ 12002 := by
          have h1 := quoteL_len_le (toL p)
          rw [toL_len] at h1
          rw [hQ, mkS_size]
          omega
        have HQ := Lib.hid hQ
        clear hB1 hQ
        go_wp2_with fail
        go_roundw
        case rel =>
          refine ⟨i + 1, _, by omega, by go_num, rfl, ?_, HB1'.out⟩
          apply toL_inj
          rw [toL_append, toL_append, HS.out, HQ.out, toL_mkS, toL_mkS, toL_mkS, take_snoc Hp.out, List.map_append, List.map_singleton, wideL_snoc, List.append_assoc]
          rfl
        case measure => simp [intOf]; omega
      · have hltI : ¬ (i : Int) < D.length := by omega
        have hSw : toL S = wideL (wordsOf (toL s)) := by rw [HS.out, toL_mkS, List.take_of_length_le (by omega), HD.out]
        have hSz : S.size ≤ 22000 := by
          have h1 := Hwd.out.2.2.2 (wordsOf (toL s)).length
          rw [List.take_of_length_le (Nat.le_refl _), ← hSw, toL_len] at h1
          exact h1
        have HSw := Lib.hid hSw
        have HB10 := Lib.hid (HB9.out.trans (HB.out.mono HB9.out.size))
        have HS10 := Lib.hid (HS9.out.keep (Cells.of_below HB.out))
        have HW10 := Lib.hid (HW9.out.keep (Cells.of_below HB.out))
        have Hv10 := Lib.hid ((HB.out.block b1 (lt_of_heap Hv9.out)).trans Hv9.out)
        clear hSw
        go_wp2_with fail
        refine (words_any _ S (by omega)).mono ?_
        rintro e y1 ⟨D2, v2, rfl, hown, hB1, hD⟩
        obtain ⟨A3, c3, rfl, hS⟩ := row_sl hown
        rw [HSw.out, Hwd.out.1]
        have hDD : D = D2 := by rw [map_mkS _ _ HD.out, map_mkS _ _ hD, HSw.out, Hwd.out.2.1]
        subst hDD
        have HB11 := Lib.hid (HB10.out.trans (hB1.mono HB10.out.size))
        have HS11 := Lib.hid (HS10.out.keep (Cells.of_below hB1))
        have HT11 := Lib.hid hS
        have HW11 := Lib.hid (HW10.out.keep (Cells.of_below hB1))
        have Hv11 := Lib.hid ((hB1.block b1 (lt_of_heap Hv10.out)).trans Hv10.out)
        clear hown hS hB1 hD HS10 HW10 Hv10
        go_wp2_with fail
        refine (parse_box S (by omega) (Hw.out.below HB11.out)).mono ?_
        rintro e y2 ⟨V3, rfl, hV3, hB2⟩
        rw [HSw.out, Hwd.out.2.2.1] at hV3 ⊢
        rw [← Her.out]
        have HV3 := Lib.hid hV3
        have HB12 := Lib.hid (HB11.out.trans (hB2.mono HB11.out.size))
        have HS12 := Lib.hid (HS11.out.keep (Cells.of_below hB2))
        have HT12 := Lib.hid (HT11.out.keep (Cells.of_below hB2))
        have HW12 := Lib.hid (HW11.out.keep (Cells.of_below hB2))
        have Hv12 := Lib.hid ((hB2.block b1 (lt_of_heap Hv11.out)).trans Hv11.out)
        clear hV3 hB2 HS11 HT11 HW11 Hv11
        obtain ⟨z0, z1, z2, z3, z4, z5, z6, z7, z8, z9, z10, z11, z12, rfl⟩ := HV3.out.lit
        go_wp2_with (first
          | (go_at_call 11; refine (num_any _ _).mono ?_; rintro e w' ⟨rfl, rfl⟩)
          | ((with_reducible refine at_store 28 ?_); refine wpList_store_new rfl 28 _ _ rfl y2.heap.size rfl #[z0, z1, z2, z3, z4, z5, z6, z7, z8, z9, z10, z11, z12] (actV zAct nilV nilV).toArray 28 rfl rfl HV3.out.size HV3.out.zsize HV3.out.one ?_))
        have HBe := Lib.hid (HB12.out.alloc HB12.out.size (.cells #[z0, z1, z2, z3, z4, z5, z6, z7, z8, z9, z10, z11, z12] 28))
        have HSe := Lib.hid (HS12.out.keep (Cells.alloc y2 (.cells #[z0, z1, z2, z3, z4, z5, z6, z7, z8, z9, z10, z11, z12] 28)))
        have HTe := Lib.hid (HT12.out.keep (Cells.alloc y2 (.cells #[z0, z1, z2, z3, z4, z5, z6, z7, z8, z9, z10, z11, z12] 28)))
        have HWe := Lib.hid (HW12.out.keep (Cells.alloc y2 (.cells #[z0, z1, z2, z3, z4, z5, z6, z7, z8, z9, z10, z11, z12] 28)))
        have HUe := Lib.hid (HV3.out.keep (Cells.alloc y2 (.cells #[z0, z1, z2, z3, z4, z5, z6, z7, z8, z9, z10, z11, z12] 28)))
        have hve : (y2.alloc (.cells #[z0, z1, z2, z3, z4, z5, z6, z7, z8, z9, z10, z11, z12] 28)).heap[b1]? = some (.cells #[v0, v1, v2, v3, v4, v5, v6, v7, v8, v9, v10, v11, v12] 28 (0, 0)) := (Below.heap_alloc _ _ _ (lt_of_heap Hv12.out)).trans Hv12.out
        have hue : (y2.alloc (.cells #[z0, z1, z2, z3, z4, z5, z6, z7, z8, z9, z10, z11, z12] 28)).heap[y2.heap.size]? = some (.cells #[z0, z1, z2, z3, z4, z5, z6, z7, z8, z9, z10, z11, z12] 28 (0, 0)) := heap_alloc_new _ _
        generalize (y2.alloc (.cells #[z0, z1, z2, z3, z4, z5, z6, z7, z8, z9, z10, z11, z12] 28)) = y3 at *
        obtain ⟨b3, hb3⟩ : ∃ b3, b3 = y2.heap.size := ⟨_, rfl⟩
        rw [← hb3] at hue ⊢
        have Hve := Lib.hid hve
        have Hue := Lib.hid hue
        clear hve hue hb3 HS12 HT12 HW12 Hv12
        refine (texts_self D A3 A c3 c _ HTe.out HSe.out).mono ?_
        rintro e y4 ⟨rfl, hB4⟩
        have HB13 := Lib.hid (HBe.out.trans (hB4.mono HBe.out.size))
        have HW13 := Lib.hid (HWe.out.keep (Cells.of_below hB4))
        have HU13 := Lib.hid (HUe.out.keep (Cells.of_below hB4))
        have hv13 := (hB4.block b1 (lt_of_heap Hve.out)).trans Hve.out
        have hu13 := (hB4.block b3 (lt_of_heap Hue.out)).trans Hue.out
        obtain ⟨p0, p1, p2, p3, p4, p5, p6, p7, p8, p9, p10, p11, p12⟩ := row13 hv13
        obtain ⟨q0, q1, q2, q3, q4, q5, q6, q7, q8, q9, q10, q11, q12⟩ := row13 hu13
        clear hB4 HSe HTe HWe HUe Hve Hue hv13 hu13
        go_wp2_with fail
        refine (HU13.out.alike HW13.out).mono ?_
        rintro e y5 ⟨rfl, hB5⟩
        have HB14 := Lib.hid (HB13.out.trans (hB5.mono HB13.out.size))
        clear hB5 p0 q0 p1 q1 p2 q2 p3 q3 p4 q4 p5 q5 p6 q6 p7 q7 p8 q8 p9 q9 p10 q10 p11 q11 p12 q12
        go_wp2_with fail
        go_ret
        exact ⟨rfl, HB14.out⟩
  · go_wp2_with (first | (go_at_call 11; refine (num_any _ _).mono ?_; rintro e w' ⟨rfl, rfl⟩))
    go_ret
    exact ⟨rfl, HB9.out⟩
end Go.Proofs.YtbmnbhammganfaaDoor
