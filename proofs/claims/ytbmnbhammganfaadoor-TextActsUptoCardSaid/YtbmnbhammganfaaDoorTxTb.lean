/-
  The law TextBack: what it answers.
-/
import Derived.Test.YtbmnbhammganfaaDoorH6
import Derived.Test.YtbmnbhammganfaaDoorH5
import Derived.Test.YtbmnbhammganfaaDoorTxTw
namespace Go.Proofs.YtbmnbhammganfaaDoor
open Go.RowKit Go.Maps

set_option linter.unusedSimpArgs false

attribute [local go_sem] lt1 lt2 lt3 lt4 lt5 lt6

theorem ActBox.format {w : World} {V : Array Value} {a : ActD} (h : ActBox w V a) (hw : Lw w) (ha : ActOk a) : Calls Tryd.prog 10 #[.agg V] w (FaPost w a) := by
  obtain ⟨A1, c1, A2, c2, rfl, h1, h2⟩ := h
  exact formatAct_any w hw a ha A1 A2 c1 c2 h1 h2
theorem formatA_len (a : ActD) : (formatA a).1.length ≤ 65536 := by
  unfold formatA
  split
  · simp
  unfold formatF
  split
  · simp
  split
  · simp
  split
  · simp
  unfold limP
  split
  · simp
  · simp only
    omega
theorem zBox (w : World) : ActBox w (actV zAct nilV nilV).toArray zAct := ⟨none, 0, none, 0, rfl, Bs.none_ w, Bs.none_ w⟩
set_option maxRecDepth 100000 in
set_option maxHeartbeats 8000000 in
theorem textBack_box (s : ByteArray) (a : ActD) (V : Array Value) (w : World) (hw : Lw w) (hV : ActBox w V a) (ha : ActOk a) : Calls Tryd.prog 3 #[.string s, .agg V] w (LawPost w) := by
  obtain ⟨v0, v1, v2, v3, v4, v5, v6, v7, v8, v9, v10, v11, v12, rfl⟩ := hV.lit
  have HV := Lib.hid (hV.keep (Cells.alloc w (.cells #[v0, v1, v2, v3, v4, v5, v6, v7, v8, v9, v10, v11, v12] 28)))
  have HB0 := Lib.hid ((Below.refl w.heap.size w).alloc (Nat.le_refl _) (.cells #[v0, v1, v2, v3, v4, v5, v6, v7, v8, v9, v10, v11, v12] 28))
  have hv0 : (w.alloc (.cells #[v0, v1, v2, v3, v4, v5, v6, v7, v8, v9, v10, v11, v12] 28)).heap[w.heap.size]? = some (.cells #[v0, v1, v2, v3, v4, v5, v6, v7, v8, v9, v10, v11, v12] 28 (0, 0)) := heap_alloc_new _ _
  have Hv0 := Lib.hid hv0
  have Hw := Lib.hid hw
  have Hf := Lib.hid (first_any _ (hw.below HB0.out))
  have Ha := Lib.hid ha
  clear hw hV ha hv0
  by_cases hs : 70000 < s.size
  · have hI : (70000 : Int) < s.size := by omega
    go_enter Tryd.func3, Tryd.ntmps3
    go_wp2_with fail
    refine Hf.out.mono ?_
    rintro e w1 ⟨rfl, hB⟩
    have HB := Lib.hid (HB0.out.trans (hB.mono HB0.out.size))
    clear hB
    go_wp2_with fail
    go_ret
    exact ⟨rfl, HB.out⟩
  have hI : ¬ (70000 : Int) < s.size := by omega
  have Hs := Lib.hid (show s.size ≤ 70000 by omega)
  clear hs
  go_enter Tryd.func3, Tryd.ntmps3
  go_wp2_with fail
  refine Hf.out.mono ?_
  rintro e x1 ⟨rfl, hB⟩
  have HB1 := Lib.hid (HB0.out.trans (hB.mono HB0.out.size))
  have HV1 := Lib.hid (HV.out.keep (Cells.of_below hB))
  have Hv1 := Lib.hid ((hB.block w.heap.size (lt_of_heap Hv0.out)).trans Hv0.out)
  clear hB Hf HV Hv0 HB0
  obtain ⟨b0, hb0⟩ : ∃ b0, b0 = w.heap.size := ⟨_, rfl⟩
  rw [← hb0] at Hv1 ⊢
  clear hb0
  obtain ⟨p0, p1, p2, p3, p4, p5, p6, p7, p8, p9, p10, p11, p12⟩ := row13 Hv1.out
  go_wp2_with fail
  refine (HV1.out.few Ha.out).mono ?_
  rintro e x2 ⟨⟨bf, rfl⟩, hB⟩
  have HB2 := Lib.hid (HB1.out.trans (hB.mono HB1.out.size))
  have HV2 := Lib.hid (HV1.out.keep (Cells.of_below hB))
  have Hv2 := Lib.hid ((hB.block b0 (lt_of_heap Hv1.out)).trans Hv1.out)
  clear hB HV1 Hv1 p0 p1 p2 p3 p4 p5 p6 p7 p8 p9 p10 p11 p12
  cases bf with
  | false =>
    go_wp2_with fail
    go_ret
    exact ⟨rfl, HB2.out⟩
  | true =>
    obtain ⟨p0, p1, p2, p3, p4, p5, p6, p7, p8, p9, p10, p11, p12⟩ := row13 Hv2.out
    go_wp2_with fail
    refine (HV2.out.format (Hw.out.below HB2.out) Ha.out).mono ?_
    rintro e x3 ⟨rfl, hB⟩
    have HB3 := Lib.hid (HB2.out.trans (hB.mono HB2.out.size))
    have HV3 := Lib.hid (HV2.out.keep (Cells.of_below hB))
    have Hv3 := Lib.hid ((hB.block b0 (lt_of_heap Hv2.out)).trans Hv2.out)
    clear hB HV2 Hv2 p0 p1 p2 p3 p4 p5 p6 p7 p8 p9 p10 p11 p12
    obtain ⟨t, ht⟩ : ∃ t, t = mkS (formatA a).1 := ⟨_, rfl⟩
    obtain ⟨ef, hef⟩ : ∃ ef, ef = (formatA a).2 := ⟨_, rfl⟩
    rw [← ht, ← hef]
    have Ht := Lib.hid ht
    have Hef := Lib.hid hef
    have htz : t.size ≤ 65536 := by rw [ht, mkS_size]; exact formatA_len a
    clear ht hef
    by_cases h0 : ef = 0
    · subst h0
      have Hback := Lib.hid (show parseA (toL t) = (a, 0) from back1 (by rw [Ht.out, toL_mkS]; exact Prod.ext rfl Hef.out.symm))
      go_wp2_with (first | (go_at_call 11; refine (num_any _ _).mono ?_; rintro e w' ⟨rfl, rfl⟩))
      refine (parse_box t (by omega) (Hw.out.below HB3.out)).mono ?_
      rintro e x4 ⟨U, rfl, hU, hB⟩
      rw [Hback.out] at hU ⊢
      have HU4 := Lib.hid hU
      have HB4 := Lib.hid (HB3.out.trans (hB.mono HB3.out.size))
      have HV4 := Lib.hid (HV3.out.keep (Cells.of_below hB))
      have Hv4 := Lib.hid ((hB.block b0 (lt_of_heap Hv3.out)).trans Hv3.out)
      clear hB hU HV3 Hv3
      simp only at HU4
      obtain ⟨u0, u1, u2, u3, u4, u5, u6, u7, u8, u9, u10, u11, u12, rfl⟩ := HU4.out.lit
      have HB5 := Lib.hid (HB4.out.alloc HB4.out.size (.cells #[u0, u1, u2, u3, u4, u5, u6, u7, u8, u9, u10, u11, u12] 28))
      have HV5 := Lib.hid (HV4.out.keep (Cells.alloc x4 (.cells #[u0, u1, u2, u3, u4, u5, u6, u7, u8, u9, u10, u11, u12] 28)))
      have HU5 := Lib.hid (HU4.out.keep (Cells.alloc x4 (.cells #[u0, u1, u2, u3, u4, u5, u6, u7, u8, u9, u10, u11, u12] 28)))
      have hv5 : (x4.alloc (.cells #[u0, u1, u2, u3, u4, u5, u6, u7, u8, u9, u10, u11, u12] 28)).heap[b0]? = some (.cells #[v0, v1, v2, v3, v4, v5, v6, v7, v8, v9, v10, v11, v12] 28 (0, 0)) := (Below.heap_alloc _ _ _ (lt_of_heap Hv4.out)).trans Hv4.out
      have hu5 : (x4.alloc (.cells #[u0, u1, u2, u3, u4, u5, u6, u7, u8, u9, u10, u11, u12] 28)).heap[x4.heap.size]? = some (.cells #[u0, u1, u2, u3, u4, u5, u6, u7, u8, u9, u10, u11, u12] 28 (0, 0)) := heap_alloc_new _ _
      obtain ⟨p0, p1, p2, p3, p4, p5, p6, p7, p8, p9, p10, p11, p12⟩ := row13 hv5
      obtain ⟨q0, q1, q2, q3, q4, q5, q6, q7, q8, q9, q10, q11, q12⟩ := row13 hu5
      have HU4' := HU4
      clear hv5 hu5
      go_wp2_with (first | (go_at_call 11; refine (num_any _ _).mono ?_; rintro e w' ⟨rfl, rfl⟩) | ((with_reducible refine at_store 28 ?_); refine wpList_store_new rfl 28 _ _ rfl x4.heap.size rfl #[u0, u1, u2, u3, u4, u5, u6, u7, u8, u9, u10, u11, u12] (actV zAct nilV nilV).toArray 28 rfl rfl HU4.out.size HU4.out.zsize HU4.out.one ?_))
      generalize (x4.alloc (.cells #[u0, u1, u2, u3, u4, u5, u6, u7, u8, u9, u10, u11, u12] 28)) = x5 at *
      refine (HV5.out.alike HU5.out).mono ?_
      rintro e x6 ⟨rfl, hB⟩
      have HB6 := Lib.hid (HB5.out.trans (hB.mono HB5.out.size))
      clear hB HV5 HU5 HV4 HU4 HU4' Hv4 p0 q0 p1 q1 p2 q2 p3 q3 p4 q4 p5 q5 p6 q6 p7 q7 p8 q8 p9 q9 p10 q10 p11 q11 p12 q12
      go_wp2_with fail
      refine (parse_box s (by have := Hs.out; omega) (Hw.out.below HB6.out)).mono ?_
      rintro e y1 ⟨C, rfl, hC, hB⟩
      have HC1 := Lib.hid hC
      have HD1 := Lib.hid (HB6.out.trans (hB.mono HB6.out.size))
      have Hcok : Hid (ActOk (parseA (toL s)).1) := Lib.hid (parse_ok (by rw [toL_len]; have := Hs.out; omega))
      have Hcz : Hid ((parseA (toL s)).2 ≠ 0 → (parseA (toL s)).1 = zAct) := Lib.hid fun h => parse_zero h
      have Hcb : Hid ((parseA (toL s)).2 = 0 → ((formatA (parseA (toL s)).1).2 = 13 ∧ 10 < s.size) ∨ ((formatA (parseA (toL s)).1).2 = 0 ∧ parseA (formatA (parseA (toL s)).1).1 = ((parseA (toL s)).1, 0))) := Lib.hid fun h => by
        rw [← toL_len]
        exact back3 (Prod.ext rfl h)
      clear hB hC
      generalize (parseA (toL s)).1 = c at *
      generalize (parseA (toL s)).2 = g at *
      obtain ⟨c0, c1, c2, c3, c4, c5, c6, c7, c8, c9, c10, c11, c12, rfl⟩ := HC1.out.lit
      have HD2 := Lib.hid (HD1.out.alloc HD1.out.size (.cells #[c0, c1, c2, c3, c4, c5, c6, c7, c8, c9, c10, c11, c12] 28))
      have HC2 := Lib.hid (HC1.out.keep (Cells.alloc y1 (.cells #[c0, c1, c2, c3, c4, c5, c6, c7, c8, c9, c10, c11, c12] 28)))
      have hc2 : (y1.alloc (.cells #[c0, c1, c2, c3, c4, c5, c6, c7, c8, c9, c10, c11, c12] 28)).heap[y1.heap.size]? = some (.cells #[c0, c1, c2, c3, c4, c5, c6, c7, c8, c9, c10, c11, c12] 28 (0, 0)) := heap_alloc_new _ _
      by_cases hg : g = 0
      · subst hg
        have hcb := Hcb.out rfl
        have Hc2 := Lib.hid hc2
        obtain ⟨p0, p1, p2, p3, p4, p5, p6, p7, p8, p9, p10, p11, p12⟩ := row13 hc2
        clear hc2 Hcz Hcb
        go_wp2_with (first | (go_at_call 11; refine (num_any _ _).mono ?_; rintro e w' ⟨rfl, rfl⟩) | ((with_reducible refine at_store 28 ?_); refine wpList_store_new rfl 28 _ _ rfl y1.heap.size rfl #[c0, c1, c2, c3, c4, c5, c6, c7, c8, c9, c10, c11, c12] (actV zAct nilV nilV).toArray 28 rfl rfl HC1.out.size HC1.out.zsize HC1.out.one ?_))
        refine (HC2.out.format (Hw.out.below HD2.out) Hcok.out).mono ?_
        rintro e y3 ⟨rfl, hB⟩
        have HD3 := Lib.hid (HD2.out.trans (hB.mono HD2.out.size))
        have HC3 := Lib.hid (HC2.out.keep (Cells.of_below hB))
        have Hc3 := Lib.hid ((hB.block y1.heap.size (lt_of_heap Hc2.out)).trans Hc2.out)
        obtain ⟨b1, hb1⟩ : ∃ b1, b1 = y1.heap.size := ⟨_, rfl⟩
        rw [← hb1] at Hc3 ⊢
        obtain ⟨u, hu⟩ : ∃ u, u = mkS (formatA c).1 := ⟨_, rfl⟩
        rw [← hu]
        have huz : u.size ≤ 65536 := by rw [hu, mkS_size]; exact formatA_len c
        have Hu := Lib.hid hu
        clear hB hb1 hu HC2 Hc2 HC1 p0 p1 p2 p3 p4 p5 p6 p7 p8 p9 p10 p11 p12
        rcases hcb with ⟨h13, h10⟩ | ⟨h0, hpp⟩
        · rw [h13]
          have h10I : (10 : Int) < s.size := by omega
          clear h13
          go_wp2_with (first | (go_at_call 11; refine (num_any _ _).mono ?_; rintro e w' ⟨rfl, rfl⟩))
          go_ret
          exact ⟨rfl, HD3.out⟩
        · rw [h0]
          have Hpp := Lib.hid (show parseA (toL u) = (c, 0) by rw [Hu.out, toL_mkS]; exact hpp)
          clear h0 hpp
          go_wp2_with (first | (go_at_call 11; refine (num_any _ _).mono ?_; rintro e w' ⟨rfl, rfl⟩))
          refine (parse_box u (by omega) (Hw.out.below HD3.out)).mono ?_
          rintro e y4 ⟨D, rfl, hD, hB⟩
          rw [Hpp.out] at hD ⊢
          have HE4 := Lib.hid hD
          have HD4 := Lib.hid (HD3.out.trans (hB.mono HD3.out.size))
          have HC4 := Lib.hid (HC3.out.keep (Cells.of_below hB))
          have Hc4 := Lib.hid ((hB.block b1 (lt_of_heap Hc3.out)).trans Hc3.out)
          clear hB hD HC3 Hc3
          simp only at HE4
          obtain ⟨d0, d1, d2, d3, d4, d5, d6, d7, d8, d9, d10, d11, d12, rfl⟩ := HE4.out.lit
          have HD5 := Lib.hid (HD4.out.alloc HD4.out.size (.cells #[d0, d1, d2, d3, d4, d5, d6, d7, d8, d9, d10, d11, d12] 28))
          have HC5 := Lib.hid (HC4.out.keep (Cells.alloc y4 (.cells #[d0, d1, d2, d3, d4, d5, d6, d7, d8, d9, d10, d11, d12] 28)))
          have HE5 := Lib.hid (HE4.out.keep (Cells.alloc y4 (.cells #[d0, d1, d2, d3, d4, d5, d6, d7, d8, d9, d10, d11, d12] 28)))
          have hc5 : (y4.alloc (.cells #[d0, d1, d2, d3, d4, d5, d6, d7, d8, d9, d10, d11, d12] 28)).heap[b1]? = some (.cells #[c0, c1, c2, c3, c4, c5, c6, c7, c8, c9, c10, c11, c12] 28 (0, 0)) := (Below.heap_alloc _ _ _ (lt_of_heap Hc4.out)).trans Hc4.out
          have hd5 : (y4.alloc (.cells #[d0, d1, d2, d3, d4, d5, d6, d7, d8, d9, d10, d11, d12] 28)).heap[y4.heap.size]? = some (.cells #[d0, d1, d2, d3, d4, d5, d6, d7, d8, d9, d10, d11, d12] 28 (0, 0)) := heap_alloc_new _ _
          obtain ⟨p0, p1, p2, p3, p4, p5, p6, p7, p8, p9, p10, p11, p12⟩ := row13 hc5
          obtain ⟨q0, q1, q2, q3, q4, q5, q6, q7, q8, q9, q10, q11, q12⟩ := row13 hd5
          clear hc5 hd5
          go_wp2_with (first | (go_at_call 11; refine (num_any _ _).mono ?_; rintro e w' ⟨rfl, rfl⟩) | ((with_reducible refine at_store 28 ?_); refine wpList_store_new rfl 28 _ _ rfl y4.heap.size rfl #[d0, d1, d2, d3, d4, d5, d6, d7, d8, d9, d10, d11, d12] (actV zAct nilV nilV).toArray 28 rfl rfl HE4.out.size HE4.out.zsize HE4.out.one ?_))
          refine (HC5.out.alike HE5.out).mono ?_
          rintro e y6 ⟨rfl, hB⟩
          have HD6 := Lib.hid (HD5.out.trans (hB.mono HD5.out.size))
          clear hB p0 q0 p1 q1 p2 q2 p3 q3 p4 q4 p5 q5 p6 q6 p7 q7 p8 q8 p9 q9 p10 q10 p11 q11 p12 q12
          go_wp2_with fail
          go_ret
          exact ⟨rfl, HD6.out⟩
      · obtain rfl : c = zAct := Hcz.out hg
        obtain ⟨p0, p1, p2, p3, p4, p5, p6, p7, p8, p9, p10, p11, p12⟩ := row13 hc2
        clear hc2 Hcb Hcz
        go_wp2_with (first | (go_at_call 11; refine (num_any _ _).mono ?_; rintro e w' ⟨rfl, rfl⟩) | ((with_reducible refine at_store 28 ?_); refine wpList_store_new rfl 28 _ _ rfl y1.heap.size rfl #[c0, c1, c2, c3, c4, c5, c6, c7, c8, c9, c10, c11, c12] (actV zAct nilV nilV).toArray 28 rfl rfl HC1.out.size HC1.out.zsize HC1.out.one ?_))
        refine (HC2.out.alike (zBox _)).mono ?_
        rintro e y3 ⟨rfl, hB⟩
        have HD3 := Lib.hid (HD2.out.trans (hB.mono HD2.out.size))
        clear hB p0 p1 p2 p3 p4 p5 p6 p7 p8 p9 p10 p11 p12
        go_wp2_with fail
        go_ret
        exact ⟨rfl, HD3.out⟩
    · go_wp2_with (first | (go_at_call 11; refine (num_any _ _).mono ?_; rintro e w' ⟨rfl, rfl⟩))
      clear HV3 Hv3
      refine (parse_box s (by have := Hs.out; omega) (Hw.out.below HB3.out)).mono ?_
      rintro e y1 ⟨C, rfl, hC, hB⟩
      have HC1 := Lib.hid hC
      have HD1 := Lib.hid (HB3.out.trans (hB.mono HB3.out.size))
      have Hcok : Hid (ActOk (parseA (toL s)).1) := Lib.hid (parse_ok (by rw [toL_len]; have := Hs.out; omega))
      have Hcz : Hid ((parseA (toL s)).2 ≠ 0 → (parseA (toL s)).1 = zAct) := Lib.hid fun h => parse_zero h
      have Hcb : Hid ((parseA (toL s)).2 = 0 → ((formatA (parseA (toL s)).1).2 = 13 ∧ 10 < s.size) ∨ ((formatA (parseA (toL s)).1).2 = 0 ∧ parseA (formatA (parseA (toL s)).1).1 = ((parseA (toL s)).1, 0))) := Lib.hid fun h => by
        rw [← toL_len]
        exact back3 (Prod.ext rfl h)
      clear hB hC
      generalize (parseA (toL s)).1 = c at *
      generalize (parseA (toL s)).2 = g at *
      obtain ⟨c0, c1, c2, c3, c4, c5, c6, c7, c8, c9, c10, c11, c12, rfl⟩ := HC1.out.lit
      have HD2 := Lib.hid (HD1.out.alloc HD1.out.size (.cells #[c0, c1, c2, c3, c4, c5, c6, c7, c8, c9, c10, c11, c12] 28))
      have HC2 := Lib.hid (HC1.out.keep (Cells.alloc y1 (.cells #[c0, c1, c2, c3, c4, c5, c6, c7, c8, c9, c10, c11, c12] 28)))
      have hc2 : (y1.alloc (.cells #[c0, c1, c2, c3, c4, c5, c6, c7, c8, c9, c10, c11, c12] 28)).heap[y1.heap.size]? = some (.cells #[c0, c1, c2, c3, c4, c5, c6, c7, c8, c9, c10, c11, c12] 28 (0, 0)) := heap_alloc_new _ _
      by_cases hg : g = 0
      · subst hg
        have hcb := Hcb.out rfl
        have Hc2 := Lib.hid hc2
        obtain ⟨p0, p1, p2, p3, p4, p5, p6, p7, p8, p9, p10, p11, p12⟩ := row13 hc2
        clear hc2 Hcz Hcb
        go_wp2_with (first | (go_at_call 11; refine (num_any _ _).mono ?_; rintro e w' ⟨rfl, rfl⟩) | ((with_reducible refine at_store 28 ?_); refine wpList_store_new rfl 28 _ _ rfl y1.heap.size rfl #[c0, c1, c2, c3, c4, c5, c6, c7, c8, c9, c10, c11, c12] (actV zAct nilV nilV).toArray 28 rfl rfl HC1.out.size HC1.out.zsize HC1.out.one ?_))
        refine (HC2.out.format (Hw.out.below HD2.out) Hcok.out).mono ?_
        rintro e y3 ⟨rfl, hB⟩
        have HD3 := Lib.hid (HD2.out.trans (hB.mono HD2.out.size))
        have HC3 := Lib.hid (HC2.out.keep (Cells.of_below hB))
        have Hc3 := Lib.hid ((hB.block y1.heap.size (lt_of_heap Hc2.out)).trans Hc2.out)
        obtain ⟨b1, hb1⟩ : ∃ b1, b1 = y1.heap.size := ⟨_, rfl⟩
        rw [← hb1] at Hc3 ⊢
        obtain ⟨u, hu⟩ : ∃ u, u = mkS (formatA c).1 := ⟨_, rfl⟩
        rw [← hu]
        have huz : u.size ≤ 65536 := by rw [hu, mkS_size]; exact formatA_len c
        have Hu := Lib.hid hu
        clear hB hb1 hu HC2 Hc2 HC1 p0 p1 p2 p3 p4 p5 p6 p7 p8 p9 p10 p11 p12
        rcases hcb with ⟨h13, h10⟩ | ⟨h0, hpp⟩
        · rw [h13]
          have h10I : (10 : Int) < s.size := by omega
          clear h13
          go_wp2_with (first | (go_at_call 11; refine (num_any _ _).mono ?_; rintro e w' ⟨rfl, rfl⟩))
          go_ret
          exact ⟨rfl, HD3.out⟩
        · rw [h0]
          have Hpp := Lib.hid (show parseA (toL u) = (c, 0) by rw [Hu.out, toL_mkS]; exact hpp)
          clear h0 hpp
          go_wp2_with (first | (go_at_call 11; refine (num_any _ _).mono ?_; rintro e w' ⟨rfl, rfl⟩))
          refine (parse_box u (by omega) (Hw.out.below HD3.out)).mono ?_
          rintro e y4 ⟨D, rfl, hD, hB⟩
          rw [Hpp.out] at hD ⊢
          have HE4 := Lib.hid hD
          have HD4 := Lib.hid (HD3.out.trans (hB.mono HD3.out.size))
          have HC4 := Lib.hid (HC3.out.keep (Cells.of_below hB))
          have Hc4 := Lib.hid ((hB.block b1 (lt_of_heap Hc3.out)).trans Hc3.out)
          clear hB hD HC3 Hc3
          simp only at HE4
          obtain ⟨d0, d1, d2, d3, d4, d5, d6, d7, d8, d9, d10, d11, d12, rfl⟩ := HE4.out.lit
          have HD5 := Lib.hid (HD4.out.alloc HD4.out.size (.cells #[d0, d1, d2, d3, d4, d5, d6, d7, d8, d9, d10, d11, d12] 28))
          have HC5 := Lib.hid (HC4.out.keep (Cells.alloc y4 (.cells #[d0, d1, d2, d3, d4, d5, d6, d7, d8, d9, d10, d11, d12] 28)))
          have HE5 := Lib.hid (HE4.out.keep (Cells.alloc y4 (.cells #[d0, d1, d2, d3, d4, d5, d6, d7, d8, d9, d10, d11, d12] 28)))
          have hc5 : (y4.alloc (.cells #[d0, d1, d2, d3, d4, d5, d6, d7, d8, d9, d10, d11, d12] 28)).heap[b1]? = some (.cells #[c0, c1, c2, c3, c4, c5, c6, c7, c8, c9, c10, c11, c12] 28 (0, 0)) := (Below.heap_alloc _ _ _ (lt_of_heap Hc4.out)).trans Hc4.out
          have hd5 : (y4.alloc (.cells #[d0, d1, d2, d3, d4, d5, d6, d7, d8, d9, d10, d11, d12] 28)).heap[y4.heap.size]? = some (.cells #[d0, d1, d2, d3, d4, d5, d6, d7, d8, d9, d10, d11, d12] 28 (0, 0)) := heap_alloc_new _ _
          obtain ⟨p0, p1, p2, p3, p4, p5, p6, p7, p8, p9, p10, p11, p12⟩ := row13 hc5
          obtain ⟨q0, q1, q2, q3, q4, q5, q6, q7, q8, q9, q10, q11, q12⟩ := row13 hd5
          clear hc5 hd5
          go_wp2_with (first | (go_at_call 11; refine (num_any _ _).mono ?_; rintro e w' ⟨rfl, rfl⟩) | ((with_reducible refine at_store 28 ?_); refine wpList_store_new rfl 28 _ _ rfl y4.heap.size rfl #[d0, d1, d2, d3, d4, d5, d6, d7, d8, d9, d10, d11, d12] (actV zAct nilV nilV).toArray 28 rfl rfl HE4.out.size HE4.out.zsize HE4.out.one ?_))
          refine (HC5.out.alike HE5.out).mono ?_
          rintro e y6 ⟨rfl, hB⟩
          have HD6 := Lib.hid (HD5.out.trans (hB.mono HD5.out.size))
          clear hB p0 q0 p1 q1 p2 q2 p3 q3 p4 q4 p5 q5 p6 q6 p7 q7 p8 q8 p9 q9 p10 q10 p11 q11 p12 q12
          go_wp2_with fail
          go_ret
          exact ⟨rfl, HD6.out⟩
      · obtain rfl : c = zAct := Hcz.out hg
        obtain ⟨p0, p1, p2, p3, p4, p5, p6, p7, p8, p9, p10, p11, p12⟩ := row13 hc2
        clear hc2 Hcb Hcz
        go_wp2_with (first | (go_at_call 11; refine (num_any _ _).mono ?_; rintro e w' ⟨rfl, rfl⟩) | ((with_reducible refine at_store 28 ?_); refine wpList_store_new rfl 28 _ _ rfl y1.heap.size rfl #[c0, c1, c2, c3, c4, c5, c6, c7, c8, c9, c10, c11, c12] (actV zAct nilV nilV).toArray 28 rfl rfl HC1.out.size HC1.out.zsize HC1.out.one ?_))
        refine (HC2.out.alike (zBox _)).mono ?_
        rintro e y3 ⟨rfl, hB⟩
        have HD3 := Lib.hid (HD2.out.trans (hB.mono HD2.out.size))
        clear hB p0 p1 p2 p3 p4 p5 p6 p7 p8 p9 p10 p11 p12
        go_wp2_with fail
        go_ret
        exact ⟨rfl, HD3.out⟩
theorem textBack_any (s : ByteArray) (a : ActD) (w : World) (hw : Lw w) (ha : ActOk a) (A1 A2 : Option Addr) (c1 c2 : Nat) (h1 : Bs w A1 c1 a.data) (h2 : Bs w A2 c2 a.fdata) : Calls Tryd.prog 3 #[.string s, .agg (actV a (.slice A1 a.data.length c1) (.slice A2 a.fdata.length c2)).toArray] w (LawPost w) :=
  textBack_box s a _ w hw ⟨A1, c1, A2, c2, rfl, h1, h2⟩ ha
end Go.Proofs.YtbmnbhammganfaaDoor
