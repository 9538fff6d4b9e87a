/-
  The law TextActs: what it answers.
-/
import Derived.Test.YtbmnbhammganfaaDoorTxLn1
import Derived.Test.YtbmnbhammganfaaDoorTxLn2
import Derived.Test.YtbmnbhammganfaaDoorTxLn3
import Derived.Test.YtbmnbhammganfaaDoorTxLn4
namespace Go.Proofs.YtbmnbhammganfaaDoor
open Go.RowKit Go.Maps

set_option linter.unusedSimpArgs false

attribute [local go_sem] lt1 lt2 lt3 lt4 lt5 lt6

theorem line_any (w : World) (a : ActD) (A1 A2 : Option Addr) (c1 c2 : Nat) (hw : Lw w) (ha : ActOk a) (h1 : Bs w A1 c1 a.data) (h2 : Bs w A2 c2 a.fdata) :
    Calls Tryd.prog 21 #[.agg (actV a (.slice A1 a.data.length c1) (.slice A2 a.fdata.length c2)).toArray] w (LnPost w a) := by
  by_cases hlo : a.kind < 1
  · exact line_klo w a A1 A2 c1 c2 hw ha h1 h2 hlo
  by_cases hhi : 11 < a.kind
  · exact line_khi w a A1 A2 c1 c2 hw ha h1 h2 hhi
  have hcase : a.kind = 1 ∨ a.kind = 2 ∨ a.kind = 3 ∨ a.kind = 4 ∨ a.kind = 5 ∨ a.kind = 6 ∨ a.kind = 7 ∨ a.kind = 8 ∨ a.kind = 9 ∨ a.kind = 10 ∨ a.kind = 11 := by omega
  rcases hcase with k | k | k | k | k | k | k | k | k | k | k
  · by_cases s1 : a.ck = 1
    · exact line_k1s1 w a A1 A2 c1 c2 hw ha h1 h2 k s1
    by_cases s4 : a.ck = 4
    · exact line_k1s4 w a A1 A2 c1 c2 hw ha h1 h2 k s4
    by_cases slo : a.ck < 1
    · exact line_k1lo w a A1 A2 c1 c2 hw ha h1 h2 k slo s1 s4
    by_cases shi : 5 < a.ck
    · exact line_k1hi w a A1 A2 c1 c2 hw ha h1 h2 k (by omega) shi s1 s4
    · exact line_k1in w a A1 A2 c1 c2 hw ha h1 h2 k (by omega) (by omega) s1 s4
  · exact line_k2 w a A1 A2 c1 c2 hw ha h1 h2 k
  · exact line_k3 w a A1 A2 c1 c2 hw ha h1 h2 k
  · exact line_k4 w a A1 A2 c1 c2 hw ha h1 h2 k
  · exact line_k5 w a A1 A2 c1 c2 hw ha h1 h2 k
  · exact line_k6 w a A1 A2 c1 c2 hw ha h1 h2 k
  · exact line_k7 w a A1 A2 c1 c2 hw ha h1 h2 k
  · by_cases slo : a.fk < 1
    · exact line_k8lo w a A1 A2 c1 c2 hw ha h1 h2 k slo
    by_cases shi : 7 < a.fk
    · exact line_k8hi w a A1 A2 c1 c2 hw ha h1 h2 k (by omega) shi
    · exact line_k8in w a A1 A2 c1 c2 hw ha h1 h2 k (by omega) (by omega)
  · exact line_k9 w a A1 A2 c1 c2 hw ha h1 h2 k
  · exact line_k10 w a A1 A2 c1 c2 hw ha h1 h2 k
  · exact line_k11 w a A1 A2 c1 c2 hw ha h1 h2 k
theorem ActBox.line {w : World} {V : Array Value} {a : ActD} (h : ActBox w V a) (hw : Lw w) (ha : ActOk a) : Calls Tryd.prog 21 #[.agg V] w (LnPost w a) := by
  obtain ⟨A1, c1, A2, c2, rfl, h1, h2⟩ := h
  exact line_any w a A1 A2 c1 c2 hw ha h1 h2
theorem rparse_same (s : List UInt8) : (rparse s).2 = (parseA s).2 ∧ ((parseA s).2 = 0 → actR (rparse s).1 = (parseA s).1) := by
  unfold rparse parseA
  by_cases h : wordsErr s ≠ 0
  · rw [if_pos h, if_pos h]
    exact ⟨rfl, fun e => absurd e h⟩
  · rw [if_neg h, if_neg h]
    exact rparse_eq _
theorem Bs.setRow {w : World} {A : Option Addr} {c : Nat} {l : List UInt8} {g : Nat} {cs old : Array Value} {t : TypeId} (h : Bs w A c l) (hg : w.heap[g]? = some (.cells old t (0, 0))) (hn : ∀ v ∈ old.toList, ∀ n, v ≠ .int .u8 n) : Bs (w.setRow g cs) A c l := by
  refine ⟨h.len, h.nil, h.le, h.big, fun hp => ?_⟩
  obtain ⟨b, o, rfl, hx⟩ := h.cells hp
  refine ⟨b, o, rfl, fun j hj => ?_⟩
  have h1 := hx j hj
  by_cases hb : b = g
  · exfalso
    subst hb
    have hjl : j < l.length := by omega
    rw [u8s_at hjl, (blk_cells hg).1] at h1
    exact hn _ (Array.mem_toList_iff.2 (Array.mem_of_getElem? h1)) _ rfl
  · rw [cell_setRow_other _ _ _ _ (by exact hb)]
    exact h1
theorem ActBox.setRow {w : World} {V : Array Value} {a : ActD} {g : Nat} {cs : Array Value} (h : ActBox w V a) (hg : w.heap[g]? = some (.cells #[.int .i64 0, .int .i64 0, .string ⟨#[]⟩, .string ⟨#[]⟩, .string ⟨#[]⟩, .slice none 0 0, .int .i64 0, .int .i64 0, .string ⟨#[]⟩, .int .i64 0, .int .i64 0, .int .i64 0, .slice none 0 0] 28 (0, 0))) : ActBox (w.setRow g cs) V a := by
  obtain ⟨A1, c1, A2, c2, rfl, h1, h2⟩ := h
  have hn : ∀ v ∈ (#[.int .i64 0, .int .i64 0, .string ⟨#[]⟩, .string ⟨#[]⟩, .string ⟨#[]⟩, .slice none 0 0, .int .i64 0, .int .i64 0, .string ⟨#[]⟩, .int .i64 0, .int .i64 0, .int .i64 0, .slice none 0 0] : Array Value).toList, ∀ n, v ≠ .int .u8 n := by
    intro v hv n e
    subst e
    simp at hv
  exact ⟨A1, c1, A2, c2, rfl, h1.setRow hg hn, h2.setRow hg hn⟩
theorem RBox.lit {w : World} {V : Array Value} {a : RActD} (h : RBox w V a) : ∃ v0 v1 v2 v3, V = #[v0, v1, v2, v3] := by
  obtain ⟨A1, c1, A2, c2, D, rfl, h1, h2⟩ := h
  exact ⟨_, _, _, _, rfl⟩
theorem RBox.one {w : World} {V : Array Value} {a : RActD} (h : RBox w V a) : V.all (·.oneCell') = true := by
  obtain ⟨A1, c1, A2, c2, D, rfl, h1, h2⟩ := h
  exact rV_one rfl rfl
theorem RBox.size {w : World} {V : Array Value} {a : RActD} (h : RBox w V a) : (Tryd.prog.info? 49).map (·.size) = some V.size := by
  obtain ⟨A1, c1, A2, c2, D, rfl, h1, h2⟩ := h
  exact sizeR
theorem RBox.zsize {w : World} {V : Array Value} {a : RActD} (h : RBox w V a) : (rV 0 0 nilV nilV).size = V.size := by
  obtain ⟨A1, c1, A2, c2, D, rfl, h1, h2⟩ := h
  rfl
set_option maxRecDepth 100000 in
set_option maxHeartbeats 8000000 in
theorem textActs_box (s : ByteArray) (a : ActD) (V : Array Value) (w : World) (hw : Lw w) (hV : ActBox w V a) (ha : ActOk a) : Calls Tryd.prog 5 #[.string s, .agg V] w (LawPost w) := by
  obtain ⟨v0, v1, v2, v3, v4, v5, v6, v7, v8, v9, v10, v11, v12, rfl⟩ := hV.lit
  have HV := Lib.hid (hV.keep (Cells.alloc w (.cells #[v0, v1, v2, v3, v4, v5, v6, v7, v8, v9, v10, v11, v12] 28)))
  have HB0 := Lib.hid ((Below.refl w.heap.size w).alloc (Nat.le_refl _) (.cells #[v0, v1, v2, v3, v4, v5, v6, v7, v8, v9, v10, v11, v12] 28))
  have hv0 : (w.alloc (.cells #[v0, v1, v2, v3, v4, v5, v6, v7, v8, v9, v10, v11, v12] 28)).heap[w.heap.size]? = some (.cells #[v0, v1, v2, v3, v4, v5, v6, v7, v8, v9, v10, v11, v12] 28 (0, 0)) := heap_alloc_new _ _
  have Hv0 := Lib.hid hv0
  have Hw := Lib.hid hw
  have Hf := Lib.hid (first_any _ (hw.below HB0.out))
  have Ha := Lib.hid ha
  clear hw hV ha hv0
  by_cases hs : 70000 < s.size
  · have hI : (70000 : Int) < s.size := by omega
    go_enter Tryd.func5, Tryd.ntmps5
    go_wp2_with fail
    refine Hf.out.mono ?_
    rintro e w1 ⟨rfl, hB⟩
    have HB := Lib.hid (HB0.out.trans (hB.mono HB0.out.size))
    clear hB
    go_wp2_with fail
    go_ret
    exact ⟨rfl, HB.out⟩
  have hI : ¬ (70000 : Int) < s.size := by omega
  have Hs := Lib.hid (show s.size ≤ 70000 by omega)
  clear hs
  go_enter Tryd.func5, Tryd.ntmps5
  go_wp2_with fail
  refine Hf.out.mono ?_
  rintro e x1 ⟨rfl, hB⟩
  have HB1 := Lib.hid (HB0.out.trans (hB.mono HB0.out.size))
  have HV1 := Lib.hid (HV.out.keep (Cells.of_below hB))
  have Hv1 := Lib.hid ((hB.block w.heap.size (lt_of_heap Hv0.out)).trans Hv0.out)
  clear hB Hf HV Hv0 HB0
  obtain ⟨b0, hb0⟩ : ∃ b0, b0 = w.heap.size := ⟨_, rfl⟩
  rw [← hb0] at Hv1 ⊢
  clear hb0
  obtain ⟨p0, p1, p2, p3, p4, p5, p6, p7, p8, p9, p10, p11, p12⟩ := row13 Hv1.out
  go_wp2_with fail
  refine (HV1.out.few Ha.out).mono ?_
  rintro e x2 ⟨⟨bf, rfl⟩, hB⟩
  have HB2 := Lib.hid (HB1.out.trans (hB.mono HB1.out.size))
  have HV2 := Lib.hid (HV1.out.keep (Cells.of_below hB))
  have Hv2 := Lib.hid ((hB.block b0 (lt_of_heap Hv1.out)).trans Hv1.out)
  clear hB HV1 Hv1 p0 p1 p2 p3 p4 p5 p6 p7 p8 p9 p10 p11 p12
  cases bf with
  | false =>
    go_wp2_with fail
    go_ret
    exact ⟨rfl, HB2.out⟩
  | true =>
    go_wp2_with fail
    refine (parse_box s (by have := Hs.out; omega) (Hw.out.below HB2.out)).mono ?_
    rintro e x3 ⟨U, rfl, hU, hB⟩
    obtain ⟨hq1, hq2⟩ := rparse_same (toL s)
    have Hq1 := Lib.hid hq1
    have Hq2 := Lib.hid hq2
    have Hz := Lib.hid (fun h => parse_zero (s := toL s) h)
    clear hq1 hq2
    have HU3 := Lib.hid hU
    have HB3 := Lib.hid (HB2.out.trans (hB.mono HB2.out.size))
    have HV3 := Lib.hid (HV2.out.keep (Cells.of_below hB))
    have Hv3 := Lib.hid ((hB.block b0 (lt_of_heap Hv2.out)).trans Hv2.out)
    clear hB hU HV2 Hv2
    obtain ⟨u0, u1, u2, u3, u4, u5, u6, u7, u8, u9, u10, u11, u12, rfl⟩ := HU3.out.lit
    obtain ⟨ee, hee⟩ : ∃ ee, ee = (parseA (toL s)).2 := ⟨_, rfl⟩
    rw [← hee]
    have Hee := Lib.hid hee
    clear hee
    have HB4 := Lib.hid (HB3.out.alloc HB3.out.size (.cells #[u0, u1, u2, u3, u4, u5, u6, u7, u8, u9, u10, u11, u12] 28))
    have HV4 := Lib.hid (HV3.out.keep (Cells.alloc x3 (.cells #[u0, u1, u2, u3, u4, u5, u6, u7, u8, u9, u10, u11, u12] 28)))
    have HU4 := Lib.hid (HU3.out.keep (Cells.alloc x3 (.cells #[u0, u1, u2, u3, u4, u5, u6, u7, u8, u9, u10, u11, u12] 28)))
    have Hv4 : Hid ((x3.alloc (.cells #[u0, u1, u2, u3, u4, u5, u6, u7, u8, u9, u10, u11, u12] 28)).heap[b0]? = some (.cells #[v0, v1, v2, v3, v4, v5, v6, v7, v8, v9, v10, v11, v12] 28 (0, 0))) := Lib.hid ((Below.heap_alloc _ _ _ (lt_of_heap Hv3.out)).trans Hv3.out)
    have Hu4 : Hid ((x3.alloc (.cells #[u0, u1, u2, u3, u4, u5, u6, u7, u8, u9, u10, u11, u12] 28)).heap[x3.heap.size]? = some (.cells #[u0, u1, u2, u3, u4, u5, u6, u7, u8, u9, u10, u11, u12] 28 (0, 0))) := Lib.hid (heap_alloc_new _ _)
    go_wp2_with (first | (go_at_call 11; refine (num_any _ _).mono ?_; rintro e w' ⟨rfl, rfl⟩) | ((with_reducible refine at_store 28 ?_); refine wpList_store_new rfl 28 _ _ rfl x3.heap.size rfl #[u0, u1, u2, u3, u4, u5, u6, u7, u8, u9, u10, u11, u12] (actV zAct nilV nilV).toArray 28 rfl rfl HU3.out.size HU3.out.zsize HU3.out.one ?_))
    generalize (x3.alloc (.cells #[u0, u1, u2, u3, u4, u5, u6, u7, u8, u9, u10, u11, u12] 28)) = x4 at *
    obtain ⟨bu, hbu⟩ : ∃ bu, bu = x3.heap.size := ⟨_, rfl⟩
    rw [← hbu] at Hu4 ⊢
    clear hbu HU3 HV3 Hv3 HB3
    refine (rparse_ref s (by have := Hs.out; omega) x4).mono ?_
    rintro e x5 ⟨VR, rfl, hR, hB⟩
    have HR5 := Lib.hid hR
    have HB5 := Lib.hid (HB4.out.trans (hB.mono HB4.out.size))
    have HV5 := Lib.hid (HV4.out.keep (Cells.of_below hB))
    have HU5 := Lib.hid (HU4.out.keep (Cells.of_below hB))
    have Hv5 := Lib.hid ((hB.block b0 (lt_of_heap Hv4.out)).trans Hv4.out)
    have Hu5 := Lib.hid ((hB.block bu (lt_of_heap Hu4.out)).trans Hu4.out)
    clear hB hR HV4 HU4 Hv4 Hu4 HB4
    obtain ⟨r0, r1, r2, r3, rfl⟩ := HR5.out.lit
    obtain ⟨er, her⟩ : ∃ er, er = (rparse (toL s)).2 := ⟨_, rfl⟩
    rw [← her]
    have Her := Lib.hid her
    clear her
    have HB6 := Lib.hid ((HB5.out.alloc HB5.out.size (.cells #[r0, r1, r2, r3] 49)).alloc (HB5.out.alloc HB5.out.size (.cells #[r0, r1, r2, r3] 49)).size (.cells #[.int .i64 0, .int .i64 0, .string ⟨#[]⟩, .string ⟨#[]⟩, .string ⟨#[]⟩, .slice none 0 0, .int .i64 0, .int .i64 0, .string ⟨#[]⟩, .int .i64 0, .int .i64 0, .int .i64 0, .slice none 0 0] 28))
    have HV6 := Lib.hid (HV5.out.keep (fun p v h => Cells.alloc _ (.cells #[.int .i64 0, .int .i64 0, .string ⟨#[]⟩, .string ⟨#[]⟩, .string ⟨#[]⟩, .slice none 0 0, .int .i64 0, .int .i64 0, .string ⟨#[]⟩, .int .i64 0, .int .i64 0, .int .i64 0, .slice none 0 0] 28) _ _ (Cells.alloc x5 (.cells #[r0, r1, r2, r3] 49) p v h)))
    have HU6 := Lib.hid (HU5.out.keep (fun p v h => Cells.alloc _ (.cells #[.int .i64 0, .int .i64 0, .string ⟨#[]⟩, .string ⟨#[]⟩, .string ⟨#[]⟩, .slice none 0 0, .int .i64 0, .int .i64 0, .string ⟨#[]⟩, .int .i64 0, .int .i64 0, .int .i64 0, .slice none 0 0] 28) _ _ (Cells.alloc x5 (.cells #[r0, r1, r2, r3] 49) p v h)))
    have HR6 := Lib.hid (HR5.out.keep (fun p v h => Cells.alloc _ (.cells #[.int .i64 0, .int .i64 0, .string ⟨#[]⟩, .string ⟨#[]⟩, .string ⟨#[]⟩, .slice none 0 0, .int .i64 0, .int .i64 0, .string ⟨#[]⟩, .int .i64 0, .int .i64 0, .int .i64 0, .slice none 0 0] 28) _ _ (Cells.alloc x5 (.cells #[r0, r1, r2, r3] 49) p v h)))
    have Hv6 : Hid (((x5.alloc (.cells #[r0, r1, r2, r3] 49)).alloc (.cells #[.int .i64 0, .int .i64 0, .string ⟨#[]⟩, .string ⟨#[]⟩, .string ⟨#[]⟩, .slice none 0 0, .int .i64 0, .int .i64 0, .string ⟨#[]⟩, .int .i64 0, .int .i64 0, .int .i64 0, .slice none 0 0] 28)).heap[b0]? = some (.cells #[v0, v1, v2, v3, v4, v5, v6, v7, v8, v9, v10, v11, v12] 28 (0, 0))) := Lib.hid ((Below.heap_alloc _ _ _ (Nat.lt_trans (lt_of_heap Hv5.out) (by simp))).trans ((Below.heap_alloc _ _ _ (lt_of_heap Hv5.out)).trans Hv5.out))
    have Hu6 : Hid (((x5.alloc (.cells #[r0, r1, r2, r3] 49)).alloc (.cells #[.int .i64 0, .int .i64 0, .string ⟨#[]⟩, .string ⟨#[]⟩, .string ⟨#[]⟩, .slice none 0 0, .int .i64 0, .int .i64 0, .string ⟨#[]⟩, .int .i64 0, .int .i64 0, .int .i64 0, .slice none 0 0] 28)).heap[bu]? = some (.cells #[u0, u1, u2, u3, u4, u5, u6, u7, u8, u9, u10, u11, u12] 28 (0, 0))) := Lib.hid ((Below.heap_alloc _ _ _ (Nat.lt_trans (lt_of_heap Hu5.out) (by simp))).trans ((Below.heap_alloc _ _ _ (lt_of_heap Hu5.out)).trans Hu5.out))
    have Hr6 : Hid (((x5.alloc (.cells #[r0, r1, r2, r3] 49)).alloc (.cells #[.int .i64 0, .int .i64 0, .string ⟨#[]⟩, .string ⟨#[]⟩, .string ⟨#[]⟩, .slice none 0 0, .int .i64 0, .int .i64 0, .string ⟨#[]⟩, .int .i64 0, .int .i64 0, .int .i64 0, .slice none 0 0] 28)).heap[x5.heap.size]? = some (.cells #[r0, r1, r2, r3] 49 (0, 0))) := Lib.hid ((Below.heap_alloc _ _ _ (by simp)).trans (heap_alloc_new _ _))
    have Hw6 : Hid (((x5.alloc (.cells #[r0, r1, r2, r3] 49)).alloc (.cells #[.int .i64 0, .int .i64 0, .string ⟨#[]⟩, .string ⟨#[]⟩, .string ⟨#[]⟩, .slice none 0 0, .int .i64 0, .int .i64 0, .string ⟨#[]⟩, .int .i64 0, .int .i64 0, .int .i64 0, .slice none 0 0] 28)).heap[x5.heap.size + 1]? = some (.cells #[.int .i64 0, .int .i64 0, .string ⟨#[]⟩, .string ⟨#[]⟩, .string ⟨#[]⟩, .slice none 0 0, .int .i64 0, .int .i64 0, .string ⟨#[]⟩, .int .i64 0, .int .i64 0, .int .i64 0, .slice none 0 0] 28 (0, 0))) := Lib.hid (by have := heap_alloc_new (x5.alloc (.cells #[r0, r1, r2, r3] 49)) (.cells #[.int .i64 0, .int .i64 0, .string ⟨#[]⟩, .string ⟨#[]⟩, .string ⟨#[]⟩, .slice none 0 0, .int .i64 0, .int .i64 0, .string ⟨#[]⟩, .int .i64 0, .int .i64 0, .int .i64 0, .slice none 0 0] 28); rwa [World.size_alloc] at this)
    by_cases h0 : er = 0
    · subst h0
      have HE : Hid ((parseA (toL s)).2 = 0) := Lib.hid (by rw [← Hq1.out, ← Her.out])
      go_wp2_with (first | (go_at_call 11; refine (num_any _ _).mono ?_; rintro e w' ⟨rfl, rfl⟩) | ((with_reducible refine at_store 49 ?_); refine wpList_store_new rfl 49 _ _ rfl x5.heap.size rfl #[r0, r1, r2, r3] (rV 0 0 nilV nilV) 49 rfl rfl HR5.out.size HR5.out.zsize HR5.out.one ?_))
      generalize ((x5.alloc (.cells #[r0, r1, r2, r3] 49)).alloc (.cells #[.int .i64 0, .int .i64 0, .string ⟨#[]⟩, .string ⟨#[]⟩, .string ⟨#[]⟩, .slice none 0 0, .int .i64 0, .int .i64 0, .string ⟨#[]⟩, .int .i64 0, .int .i64 0, .int .i64 0, .slice none 0 0] 28)) = x6 at *
      obtain ⟨bw, hbw⟩ : ∃ bw, bw = x5.heap.size + 1 := ⟨_, rfl⟩
      have hub : bu ≠ bw := by have := lt_of_heap Hu5.out; omega
      have hvb : b0 ≠ bw := by have := lt_of_heap Hv5.out; omega
      have hbl := HB5.out.size
      rw [← hbw] at Hw6 ⊢
      have hwb : w.heap.size ≤ bw := by omega
      refine (act_ref x6 _ _ HR6.out (rparse_wf (by rw [toL_len]; have := Hs.out; omega) Her.out.symm)).mono ?_
      rintro e x7 ⟨VA, rfl, hVA, hB⟩
      rw [Hq2.out HE.out] at hVA
      have HT7 := Lib.hid hVA
      have HB7 := Lib.hid (HB6.out.trans (hB.mono HB6.out.size))
      have HV7 := Lib.hid (HV6.out.keep (Cells.of_below hB))
      have HU7 := Lib.hid (HU6.out.keep (Cells.of_below hB))
      have Hv7 := Lib.hid ((hB.block b0 (lt_of_heap Hv6.out)).trans Hv6.out)
      have Hu7 := Lib.hid ((hB.block bu (lt_of_heap Hu6.out)).trans Hu6.out)
      have Hw7 := Lib.hid ((hB.block bw (lt_of_heap Hw6.out)).trans Hw6.out)
      clear hB hVA HV6 HU6 Hv6 Hu6 Hw6 HB6 HR6 Hr6 HV5 HU5 Hv5 Hu5 HR5 HB5 hbw hbl
      obtain ⟨t0, t1, t2, t3, t4, t5, t6, t7, t8, t9, t10, t11, t12, rfl⟩ := HT7.out.lit
      have hsb : ∀ {A c l}, Bs x7 A c l → Bs x7 A c l := fun h => h
      have HB8 := Lib.hid (below_row (g := bw) HB7.out hwb #[t0, t1, t2, t3, t4, t5, t6, t7, t8, t9, t10, t11, t12])
      have Hv8 : Hid ((x7.setRow bw #[t0, t1, t2, t3, t4, t5, t6, t7, t8, t9, t10, t11, t12]).heap[b0]? = some (.cells #[v0, v1, v2, v3, v4, v5, v6, v7, v8, v9, v10, v11, v12] 28 (0, 0))) := Lib.hid ((setRow_other _ _ _ _ hvb).trans Hv7.out)
      have Hu8 : Hid ((x7.setRow bw #[t0, t1, t2, t3, t4, t5, t6, t7, t8, t9, t10, t11, t12]).heap[bu]? = some (.cells #[u0, u1, u2, u3, u4, u5, u6, u7, u8, u9, u10, u11, u12] 28 (0, 0))) := Lib.hid ((setRow_other _ _ _ _ hub).trans Hu7.out)
      have Hw8 : Hid ((x7.setRow bw #[t0, t1, t2, t3, t4, t5, t6, t7, t8, t9, t10, t11, t12]).heap[bw]? = some (.cells #[t0, t1, t2, t3, t4, t5, t6, t7, t8, t9, t10, t11, t12] 28 (0, 0))) := Lib.hid (setRow_heap _ _ _ _ _ _ Hw7.out)
      have hkp : ∀ {Vx : Array Value} {c : ActD}, ActBox x7 Vx c → ActBox (x7.setRow bw #[t0, t1, t2, t3, t4, t5, t6, t7, t8, t9, t10, t11, t12]) Vx c := fun h => h.setRow Hw7.out
      have HV8 := Lib.hid (hkp HV7.out)
      have HU8 := Lib.hid (hkp HU7.out)
      have HT8 := Lib.hid (hkp HT7.out)
      clear hkp hsb
      obtain ⟨p0, p1, p2, p3, p4, p5, p6, p7, p8, p9, p10, p11, p12⟩ := row13 Hv8.out
      go_wp2_with ((with_reducible refine at_store 28 ?_); refine wpList_store_row rfl 28 _ _ rfl bw #[t0, t1, t2, t3, t4, t5, t6, t7, t8, t9, t10, t11, t12] rfl rfl 28 #[.int .i64 0, .int .i64 0, .string ⟨#[]⟩, .string ⟨#[]⟩, .string ⟨#[]⟩, .slice none 0 0, .int .i64 0, .int .i64 0, .string ⟨#[]⟩, .int .i64 0, .int .i64 0, .int .i64 0, .slice none 0 0] Hw7.out HT7.out.size rfl HT7.out.one ?_)
      generalize (x7.setRow bw #[t0, t1, t2, t3, t4, t5, t6, t7, t8, t9, t10, t11, t12]) = x8 at *
      have hen : (ee == 0) = true := by rw [Hee.out, HE.out]; rfl
      clear HV7 HU7 HT7 Hv7 Hu7 Hw7 HB7
      refine (HV8.out.format (Hw.out.below HB8.out) Ha.out).mono ?_
      rintro e x9 ⟨rfl, hB⟩
      have HB9 := Lib.hid (HB8.out.trans (hB.mono HB8.out.size))
      have HV9 := Lib.hid (HV8.out.keep (Cells.of_below hB))
      have HU9 := Lib.hid (HU8.out.keep (Cells.of_below hB))
      have HT9 := Lib.hid (HT8.out.keep (Cells.of_below hB))
      have Hv9 := Lib.hid ((hB.block b0 (lt_of_heap Hv8.out)).trans Hv8.out)
      have Hu9 := Lib.hid ((hB.block bu (lt_of_heap Hu8.out)).trans Hu8.out)
      have Hw9 := Lib.hid ((hB.block bw (lt_of_heap Hw8.out)).trans Hw8.out)
      clear hB HV8 HU8 HT8 Hv8 Hu8 Hw8 HB8 p0 p1 p2 p3 p4 p5 p6 p7 p8 p9 p10 p11 p12
      obtain ⟨p0, p1, p2, p3, p4, p5, p6, p7, p8, p9, p10, p11, p12⟩ := row13 Hv9.out
      obtain ⟨ft, hft⟩ : ∃ t, t = mkS (formatA a).1 := ⟨_, rfl⟩
      obtain ⟨ef, hef⟩ : ∃ ef, ef = (formatA a).2 := ⟨_, rfl⟩
      rw [← hft, ← hef]
      have Hft := Lib.hid hft
      have Hef := Lib.hid hef
      clear hft hef
      go_wp2_with fail
      refine (HV9.out.line (Hw.out.below HB9.out) Ha.out).mono ?_
      rintro e x10 ⟨rfl, hB⟩
      have HB10 := Lib.hid (HB9.out.trans (hB.mono HB9.out.size))
      have HU10 := Lib.hid (HU9.out.keep (Cells.of_below hB))
      have HT10 := Lib.hid (HT9.out.keep (Cells.of_below hB))
      have Hu10 := Lib.hid ((hB.block bu (lt_of_heap Hu9.out)).trans Hu9.out)
      have Hw10 := Lib.hid ((hB.block bw (lt_of_heap Hw9.out)).trans Hw9.out)
      clear hB HV9 HU9 HT9 Hv9 Hu9 Hw9 HB9 p0 p1 p2 p3 p4 p5 p6 p7 p8 p9 p10 p11 p12
      rw [← Hft.out, ← Hef.out]
      obtain ⟨p0, p1, p2, p3, p4, p5, p6, p7, p8, p9, p10, p11, p12⟩ := row13 Hu10.out
      obtain ⟨q0, q1, q2, q3, q4, q5, q6, q7, q8, q9, q10, q11, q12⟩ := row13 Hw10.out
      go_wp2_with fail
      refine (HU10.out.alike HT10.out).mono ?_
      rintro e x11 ⟨rfl, hB⟩
      have HB11 := Lib.hid (HB10.out.trans (hB.mono HB10.out.size))
      clear hB HU10 HT10 Hu10 Hw10 HB10 p0 p1 p2 p3 p4 p5 p6 p7 p8 p9 p10 p11 p12 q0 q1 q2 q3 q4 q5 q6 q7 q8 q9 q10 q11 q12
      go_wp2_with (first | (go_at_call 11; refine (num_any _ _).mono ?_; rintro e w' ⟨rfl, rfl⟩))
      go_ret
      exact ⟨rfl, HB11.out⟩
    · have HE : Hid ((parseA (toL s)).2 ≠ 0) := Lib.hid (by rw [← Hq1.out, ← Her.out]; exact h0)
      have h0b : (er == 0) = false := beq_eq_false_iff_ne.2 h0
      clear h0
      obtain ⟨t0, t1, t2, t3, t4, t5, t6, t7, t8, t9, t10, t11, t12, ht⟩ : ∃ t0 t1 t2 t3 t4 t5 t6 t7 t8 t9 t10 t11 t12, (#[.int .i64 0, .int .i64 0, .string ⟨#[]⟩, .string ⟨#[]⟩, .string ⟨#[]⟩, .slice none 0 0, .int .i64 0, .int .i64 0, .string ⟨#[]⟩, .int .i64 0, .int .i64 0, .int .i64 0, .slice none 0 0] : Array Value) = #[t0, t1, t2, t3, t4, t5, t6, t7, t8, t9, t10, t11, t12] := ⟨_, _, _, _, _, _, _, _, _, _, _, _, _, rfl⟩
      have Ht := Lib.hid ht
      clear ht
      obtain ⟨p0, p1, p2, p3, p4, p5, p6, p7, p8, p9, p10, p11, p12⟩ := row13 Hv6.out
      go_wp2_with (first | (go_at_call 11; refine (num_any _ _).mono ?_; rintro e w' ⟨rfl, rfl⟩) | ((with_reducible refine at_store 49 ?_); refine wpList_store_new rfl 49 _ _ rfl x5.heap.size rfl #[r0, r1, r2, r3] (rV 0 0 nilV nilV) 49 rfl rfl HR5.out.size HR5.out.zsize HR5.out.one ?_))
      generalize ((x5.alloc (.cells #[r0, r1, r2, r3] 49)).alloc (.cells #[.int .i64 0, .int .i64 0, .string ⟨#[]⟩, .string ⟨#[]⟩, .string ⟨#[]⟩, .slice none 0 0, .int .i64 0, .int .i64 0, .string ⟨#[]⟩, .int .i64 0, .int .i64 0, .int .i64 0, .slice none 0 0] 28)) = x8 at *
      obtain ⟨bw, hbw⟩ : ∃ bw, bw = x5.heap.size + 1 := ⟨_, rfl⟩
      rw [← hbw] at Hw6 ⊢
      have HB8 := HB6
      have HV8 := HV6
      have HU8 := HU6
      have Hv8 := Hv6
      have Hu8 := Hu6
      have HT8 : Hid (ActBox x8 #[t0, t1, t2, t3, t4, t5, t6, t7, t8, t9, t10, t11, t12] (parseA (toL s)).1) := Lib.hid (by rw [Hz.out HE.out, ← Ht.out]; exact zBox x8)
      have Hw8 : Hid (x8.heap[bw]? = some (.cells #[t0, t1, t2, t3, t4, t5, t6, t7, t8, t9, t10, t11, t12] 28 (0, 0))) := Lib.hid (by rw [← Ht.out]; exact Hw6.out)
      have hen : (ee == er) = true := by rw [Hee.out, Her.out, Hq1.out]; exact BEq.rfl
      clear HB6 HV6 HU6 Hv6 Hu6 Hw6 HR6 Hr6 HV5 HU5 Hv5 Hu5 HR5 HB5 hbw
      refine (HV8.out.format (Hw.out.below HB8.out) Ha.out).mono ?_
      rintro e x9 ⟨rfl, hB⟩
      have HB9 := Lib.hid (HB8.out.trans (hB.mono HB8.out.size))
      have HV9 := Lib.hid (HV8.out.keep (Cells.of_below hB))
      have HU9 := Lib.hid (HU8.out.keep (Cells.of_below hB))
      have HT9 := Lib.hid (HT8.out.keep (Cells.of_below hB))
      have Hv9 := Lib.hid ((hB.block b0 (lt_of_heap Hv8.out)).trans Hv8.out)
      have Hu9 := Lib.hid ((hB.block bu (lt_of_heap Hu8.out)).trans Hu8.out)
      have Hw9 := Lib.hid ((hB.block bw (lt_of_heap Hw8.out)).trans Hw8.out)
      clear hB HV8 HU8 HT8 Hv8 Hu8 Hw8 HB8 p0 p1 p2 p3 p4 p5 p6 p7 p8 p9 p10 p11 p12
      obtain ⟨p0, p1, p2, p3, p4, p5, p6, p7, p8, p9, p10, p11, p12⟩ := row13 Hv9.out
      obtain ⟨ft, hft⟩ : ∃ t, t = mkS (formatA a).1 := ⟨_, rfl⟩
      obtain ⟨ef, hef⟩ : ∃ ef, ef = (formatA a).2 := ⟨_, rfl⟩
      rw [← hft, ← hef]
      have Hft := Lib.hid hft
      have Hef := Lib.hid hef
      clear hft hef
      go_wp2_with fail
      refine (HV9.out.line (Hw.out.below HB9.out) Ha.out).mono ?_
      rintro e x10 ⟨rfl, hB⟩
      have HB10 := Lib.hid (HB9.out.trans (hB.mono HB9.out.size))
      have HU10 := Lib.hid (HU9.out.keep (Cells.of_below hB))
      have HT10 := Lib.hid (HT9.out.keep (Cells.of_below hB))
      have Hu10 := Lib.hid ((hB.block bu (lt_of_heap Hu9.out)).trans Hu9.out)
      have Hw10 := Lib.hid ((hB.block bw (lt_of_heap Hw9.out)).trans Hw9.out)
      clear hB HV9 HU9 HT9 Hv9 Hu9 Hw9 HB9 p0 p1 p2 p3 p4 p5 p6 p7 p8 p9 p10 p11 p12
      rw [← Hft.out, ← Hef.out]
      obtain ⟨p0, p1, p2, p3, p4, p5, p6, p7, p8, p9, p10, p11, p12⟩ := row13 Hu10.out
      obtain ⟨q0, q1, q2, q3, q4, q5, q6, q7, q8, q9, q10, q11, q12⟩ := row13 Hw10.out
      go_wp2_with fail
      refine (HU10.out.alike HT10.out).mono ?_
      rintro e x11 ⟨rfl, hB⟩
      have HB11 := Lib.hid (HB10.out.trans (hB.mono HB10.out.size))
      clear hB HU10 HT10 Hu10 Hw10 HB10 p0 p1 p2 p3 p4 p5 p6 p7 p8 p9 p10 p11 p12 q0 q1 q2 q3 q4 q5 q6 q7 q8 q9 q10 q11 q12
      go_wp2_with (first | (go_at_call 11; refine (num_any _ _).mono ?_; rintro e w' ⟨rfl, rfl⟩))
      go_ret
      exact ⟨rfl, HB11.out⟩
theorem textActs_any (s : ByteArray) (a : ActD) (w : World) (hw : Lw w) (ha : ActOk a) (A1 A2 : Option Addr) (c1 c2 : Nat) (h1 : Bs w A1 c1 a.data) (h2 : Bs w A2 c2 a.fdata) : Calls Tryd.prog 5 #[.string s, .agg (actV a (.slice A1 a.data.length c1) (.slice A2 a.fdata.length c2)).toArray] w (LawPost w) :=
  textActs_box s a _ w hw ⟨A1, c1, A2, c2, rfl, h1, h2⟩ ha
end Go.Proofs.YtbmnbhammganfaaDoor
