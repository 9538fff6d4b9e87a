/-
  first: lines of which the document fixes all.
  first: lines of which the document fixes all.
-/
import Derived.Test.YtlljjddgbilipaaGreatDoorTxPa
import Derived.Test.YtlljjddgbilipaaGreatDoorTxFa
import Derived.Lib.SlBytesConst
namespace Go.Proofs.YtlljjddgbilipaaGreatDoor
open Go.RowKit Go.Maps

set_option linter.unusedSimpArgs false

attribute [local go_sem] lt1 lt2 lt3 lt4 lt5 lt6

theorem f1 : wordsErr [119, 114, 105, 116, 101, 32, 32, 103, 111, 46, 109, 111, 100, 32, 34, 97, 32, 98, 92, 117, 48, 48, 48, 97, 34] = 0 ∧ wordsOf [119, 114, 105, 116, 101, 32, 32, 103, 111, 46, 109, 111, 100, 32, 34, 97, 32, 98, 92, 117, 48, 48, 48, 97, 34] = [[119, 114, 105, 116, 101], [103, 111, 46, 109, 111, 100], [97, 32, 98, 10]] := by decide +kernel
theorem f2 : (parseA [114, 117, 110, 32, 103, 101, 116, 32, 97, 46, 120, 47, 100, 32, 34, 34]).2 = 0 ∧ (parseA [114, 117, 110, 32, 103, 101, 116, 32, 97, 46, 120, 47, 100, 32, 34, 34]).1.kind = 1 ∧ (parseA [114, 117, 110, 32, 103, 101, 116, 32, 97, 46, 120, 47, 100, 32, 34, 34]).1.path = [97, 46, 120, 47, 100] := by decide +kernel
theorem dec1 : Lib.decDigits 1 = [49] := by
  rw [Lib.decDigits, dif_pos (by decide)]
  rfl
theorem num1F : numP [49] = some 1 := numP_iff.2 ⟨by unfold Lib.itoa; rw [if_neg (by decide)]; exact dec1, by decide, by decide⟩
theorem numx : numP [120] = none := by
  unfold numP
  rw [show Lib.atoiAll [120] = .syntax by decide +kernel]
theorem f3 : parseA [99, 114, 97, 115, 104, 32, 49, 32, 120] = (zAct, 6) := by
  have h1 : wordsErr [99, 114, 97, 115, 104, 32, 49, 32, 120] = 0 ∧ wordsOf [99, 114, 97, 115, 104, 32, 49, 32, 120] = [[99, 114, 97, 115, 104], [49], [120]] := by decide +kernel
  have h2 : findL FORMS [[99, 114, 97, 115, 104], [49], [120]] = some (⟨[99, 114, 97, 115, 104], [], 4, 0, [78, 77]⟩, 1) := by
    rfl
  rw [parseA_ok h1.1, h1.2]
  unfold parseW
  rw [h2]
  simp only
  rw [if_neg (by decide)]
  have h3 : ∀ s, stepF 78 [49] s = some (setN 78 1 s.1, s.2) := fun s => by
    have h : stepF 78 [49] s = (numP [49]).map (fun n => (setN 78 n s.1, s.2)) := rfl
    rw [h, num1F]
    rfl
  have h4 : ∀ s, stepF 77 [120] s = none := fun s => by
    have h : stepF 77 [120] s = (numP [120]).map (fun n => (setN 77 n s.1, s.2)) := rfl
    rw [h, numx]
    rfl
  have h5 : ∀ s, parseF [78, 77] [[49], [120]] s = none := fun s => by
    rw [parseF, h3]
    simp only
    rw [parseF, h4]
  have h6 : parseF [78, 77] (List.drop 1 ([[99, 114, 97, 115, 104], [49], [120]] : List (List UInt8))) (initA ⟨[99, 114, 97, 115, 104], [], 4, 0, [78, 77]⟩, false) = none := h5 _
  rw [h6]
def act4 : ActD := { zAct with kind := 6, name := [97], data := [120, 32, 121] }
theorem f4 : formatA act4 = ([119, 114, 105, 116, 101, 32, 97, 32, 34, 120, 32, 121, 34], 0) := by decide +kernel
end Go.Proofs.YtlljjddgbilipaaGreatDoor
namespace Go.Proofs.YtlljjddgbilipaaGreatDoor
open Go.RowKit Go.Maps

set_option linter.unusedSimpArgs false

attribute [local go_sem] lt1 lt2 lt3 lt4 lt5 lt6

theorem map_mkS : ∀ (D : List ByteArray) (l : List (List UInt8)), D.map toL = l → D = l.map mkS
  | [], _, h => by subst h; rfl
  | x :: r, _, h => by subst h; rw [List.map_cons, List.map_cons, mkS_toL, ← map_mkS r _ rfl]
theorem act4_ok : ActOk act4 := ⟨by decide, by decide, by decide, by decide, by decide, by decide, by decide, by decide, by decide, by decide, by decide⟩
set_option maxRecDepth 100000 in
set_option maxHeartbeats 8000000 in
theorem first_any (w : World) (hw : Lw w) : Calls Tryz.prog 4 #[] w fun e w' => e = .returned (.bool true) ∧ Below w.heap.size w w' := by
  have kc := fun (w : World) (C : Array Value) (n c : Nat) => Lib.run_convert_bytes_const (P := Tryz.prog) w 30 5 C n c Tryz.underlying30 Tryz.underlying5
  have Hw := Lib.hid hw
  clear hw
  go_enter Tryz.func4, Tryz.ntmps4
  go_wp2_with fail
  refine (words_any _ ⟨#[119, 114, 105, 116, 101, 32, 32, 103, 111, 46, 109, 111, 100, 32, 34, 97, 32, 98, 92, 117, 48, 48, 48, 97, 34]⟩ (by decide)).mono ?_
  rintro e x1 ⟨D, v, rfl, hown, hB1, hD⟩
  rw [show toL ⟨#[119, 114, 105, 116, 101, 32, 32, 103, 111, 46, 109, 111, 100, 32, 34, 97, 32, 98, 92, 117, 48, 48, 48, 97, 34]⟩ = [119, 114, 105, 116, 101, 32, 32, 103, 111, 46, 109, 111, 100, 32, 34, 97, 32, 98, 92, 117, 48, 48, 48, 97, 34] from rfl] at hD ⊢
  rw [f1.2] at hD
  rw [f1.1]
  obtain ⟨A, c, rfl, hS⟩ := row_sl hown
  have hDe := map_mkS _ _ hD
  have HB1 := Lib.hid hB1
  have HS := Lib.hid hS
  have HD := Lib.hid hDe
  clear hown hB1 hS hD hDe
  go_wp2_with fail
  refine (parseAct_any ⟨#[114, 117, 110, 32, 103, 101, 116, 32, 97, 46, 120, 47, 100, 32, 34, 34]⟩ (by decide) (Hw.out.below HB1.out)).mono ?_
  rintro e x2 ⟨a, dv, fv, rfl, ha, hd1, hd2, hB2⟩
  rw [show toL ⟨#[114, 117, 110, 32, 103, 101, 116, 32, 97, 46, 120, 47, 100, 32, 34, 34]⟩ = [114, 117, 110, 32, 103, 101, 116, 32, 97, 46, 120, 47, 100, 32, 34, 34] from rfl] at ha ⊢
  rw [f2.1]
  have ha1 : a.kind = 1 := by rw [ha, f2.2.1]
  have ha2 : mkS a.path = ⟨#[97, 46, 120, 47, 100]⟩ := by rw [ha, f2.2.2]; rfl
  have HB2 := Lib.hid (HB1.out.trans (hB2.mono HB1.out.size))
  have H1a := Lib.hid (all_oneCell_toArray (actV_one (a := a) hd1.one hd2.one))
  have hc0 : (actV a dv fv)[0]? = some (.int .i64 1) := by rw [← ha1]; rfl
  have hc2 : (actV a dv fv)[2]? = some (.string ⟨#[97, 46, 120, 47, 100]⟩) := by rw [← ha2]; rfl
  have Hsz : Hid ((Tryz.prog.info? 57).map (·.size) = some (actV a dv fv).toArray.size) := Lib.hid sizeAct
  have Hszz : Hid ((actV zAct nilV nilV).toArray.size = (actV a dv fv).toArray.size) := Lib.hid rfl
  obtain ⟨VA, hVA⟩ : ∃ VA, VA = actV a dv fv := ⟨_, rfl⟩
  rw [← hVA] at H1a hc0 hc2 Hsz Hszz ⊢
  have HS2 := Lib.hid (HS.out.keep (Cells.of_below hB2))
  clear ha ha1 ha2 hd1 hd2 hB2 hVA
  go_wp2_with ((with_reducible refine at_store 57 ?_); refine wpList_store_new rfl 57 _ _ rfl x2.heap.size rfl VA.toArray (actV zAct nilV nilV).toArray 57 rfl rfl Hsz.out Hszz.out H1a.out ?_)
  have HB3 := Lib.hid (HB2.out.alloc HB2.out.size (.cells VA.toArray 57))
  have HS3 := Lib.hid (HS2.out.keep (Cells.alloc x2 (.cells VA.toArray 57)))
  have hv0 : (x2.alloc (.cells VA.toArray 57)).heap[x2.heap.size]? = some (.cells VA.toArray 57 (0, 0)) := heap_alloc_new _ _
  generalize (x2.alloc (.cells VA.toArray 57)) = x3 at *
  obtain ⟨b3, hb3⟩ : ∃ b3, b3 = x2.heap.size := ⟨_, rfl⟩
  rw [← hb3] at hv0 ⊢
  have Hv3 := Lib.hid hv0
  clear hv0 hb3
  refine (parseAct_any ⟨#[99, 114, 97, 115, 104, 32, 49, 32, 120]⟩ (by decide) (Hw.out.below HB3.out)).mono ?_
  rintro e x4 ⟨a4, dv4, fv4, rfl, ha, hd1, hd2, hB4⟩
  rw [show toL ⟨#[99, 114, 97, 115, 104, 32, 49, 32, 120]⟩ = [99, 114, 97, 115, 104, 32, 49, 32, 120] from rfl] at ha ⊢
  rw [f3]
  have HB4 := Lib.hid (HB3.out.trans (hB4.mono HB3.out.size))
  have H1b := Lib.hid (all_oneCell_toArray (actV_one (a := a4) hd1.one hd2.one))
  have Hsz4 : Hid ((Tryz.prog.info? 57).map (·.size) = some (actV a4 dv4 fv4).toArray.size) := Lib.hid sizeAct
  have Hszz4 : Hid ((actV zAct nilV nilV).toArray.size = (actV a4 dv4 fv4).toArray.size) := Lib.hid rfl
  have HS4 := Lib.hid (HS3.out.keep (Cells.of_below hB4))
  have Hv4 := Lib.hid ((hB4.block b3 (lt_of_heap Hv3.out)).trans Hv3.out)
  generalize (actV a4 dv4 fv4).toArray = VB at *
  clear ha hd1 hd2 hB4
  have hcv : (convert 30 30 (.slice (some ⟨x4.heap.size + 1, 0, none⟩) 3 3)).run Tryz.prog ((x4.alloc (.cells VB 57)).alloc (.cells #[.int .u8 120, .int .u8 32, .int .u8 121] 5)) = .ok (.slice (some ⟨x4.heap.size + 1, 0, none⟩) 3 3) ((x4.alloc (.cells VB 57)).alloc (.cells #[.int .u8 120, .int .u8 32, .int .u8 121] 5 (3, 4))) := by
    have h := kc (x4.alloc (.cells VB 57)) #[.int .u8 120, .int .u8 32, .int .u8 121] 3 3
    rw [show (x4.alloc (.cells VB 57)).heap.size = x4.heap.size + 1 by simp] at h
    exact h
  clear kc
  go_wp2_with ((with_reducible refine at_store 57 ?_); refine wpList_store_new rfl 57 _ _ rfl x4.heap.size rfl VB (actV zAct nilV nilV).toArray 57 rfl rfl Hsz4.out Hszz4.out H1b.out ?_)
  have h5 : Bs ((x4.alloc (.cells VB 57)).alloc (.cells #[.int .u8 120, .int .u8 32, .int .u8 121] 5 (3, 4))) (some ⟨x4.heap.size + 1, 0, none⟩) 3 act4.data := by
    refine ⟨by simp [u8s], by simp, by decide, by decide, fun _ => ⟨_, 0, rfl, fun j hj => ?_⟩⟩
    rw [World.cell?, heap_alloc_if, if_pos (by simp)]
    simp [act4, u8s]
  have hfa := formatAct_any ((x4.alloc (.cells VB 57)).alloc (.cells #[.int .u8 120, .int .u8 32, .int .u8 121] 5 (3, 4))) (Hw.out.below ((HB4.out.alloc HB4.out.size _).alloc (by simp; have := HB4.out.size; omega) _)) act4 act4_ok (some ⟨x4.heap.size + 1, 0, none⟩) none 3 0 h5 (Bs.none_ _)
  have hB5 := ((HB4.out.alloc HB4.out.size (.cells VB 57)).alloc (by simp; have := HB4.out.size; omega) (.cells #[.int .u8 120, .int .u8 32, .int .u8 121] 5 (3, 4)))
  have hS5 := (HS4.out.keep (Cells.alloc x4 (.cells VB 57))).keep (Cells.alloc _ (.cells #[.int .u8 120, .int .u8 32, .int .u8 121] 5 (3, 4)))
  have hv5 : ((x4.alloc (.cells VB 57)).alloc (.cells #[.int .u8 120, .int .u8 32, .int .u8 121] 5 (3, 4))).heap[b3]? = some (.cells VA.toArray 57 (0, 0)) := (Below.heap_alloc _ _ _ (by simp; have := lt_of_heap Hv4.out; omega)).trans ((Below.heap_alloc _ _ _ (lt_of_heap Hv4.out)).trans Hv4.out)
  generalize ((x4.alloc (.cells VB 57)).alloc (.cells #[.int .u8 120, .int .u8 32, .int .u8 121] 5 (3, 4))) = x5 at *
  refine hfa.mono ?_
  rintro e x6 ⟨rfl, hB6⟩
  rw [f4, show mkS [119, 114, 105, 116, 101, 32, 97, 32, 34, 120, 32, 121, 34] = ⟨#[119, 114, 105, 116, 101, 32, 97, 32, 34, 120, 32, 121, 34]⟩ from rfl]
  have HB6 := Lib.hid (hB5.trans (hB6.mono hB5.size))
  have HS6 := Lib.hid (hS5.keep (Cells.of_below hB6))
  have hv6 := (hB6.block b3 (lt_of_heap hv5)).trans hv5
  have hl6 := lt_of_heap hv6
  have hd0 : x6.cell? ⟨b3, 0, none⟩ = some (.int .i64 1) := ((blk_cells hv6).1 0).trans (by rw [List.getElem?_toArray]; exact hc0)
  have hd2 : x6.cell? ⟨b3, 2, none⟩ = some (.string ⟨#[97, 46, 120, 47, 100]⟩) := ((blk_cells hv6).1 2).trans (by rw [List.getElem?_toArray]; exact hc2)
  clear hfa h5 hB5 hS5 hv5 hB6 hv6 hcv hc0 hc2
  go_wp2_with fail
  have h1t : Sl (x6.alloc (.cells #[.string ⟨#[119, 114, 105, 116, 101]⟩, .string ⟨#[103, 111, 46, 109, 111, 100]⟩, .string ⟨#[97, 32, 98, 10]⟩] 9)) A c D.length 1 (D.map Value.string) := HS6.out.keep (Cells.alloc _ _)
  have h2t : Sl (x6.alloc (.cells #[.string ⟨#[119, 114, 105, 116, 101]⟩, .string ⟨#[103, 111, 46, 109, 111, 100]⟩, .string ⟨#[97, 32, 98, 10]⟩] 9)) (some ⟨x6.heap.size, 0, none⟩) 3 ([⟨#[119, 114, 105, 116, 101]⟩, ⟨#[103, 111, 46, 109, 111, 100]⟩, ⟨#[97, 32, 98, 10]⟩] : List ByteArray).length 1 (([⟨#[119, 114, 105, 116, 101]⟩, ⟨#[103, 111, 46, 109, 111, 100]⟩, ⟨#[97, 32, 98, 10]⟩] : List ByteArray).map Value.string) :=
    ⟨rfl, by simp, by decide, by decide, fun _ => ⟨_, 0, rfl, fun j hj => by rw [World.cell?, heap_alloc_if, if_pos rfl]; simp⟩⟩
  have ht := texts_any D [⟨#[119, 114, 105, 116, 101]⟩, ⟨#[103, 111, 46, 109, 111, 100]⟩, ⟨#[97, 32, 98, 10]⟩] A (some ⟨x6.heap.size, 0, none⟩) c 3 _ h1t h2t
  have hdd : decide (D = [⟨#[119, 114, 105, 116, 101]⟩, ⟨#[103, 111, 46, 109, 111, 100]⟩, ⟨#[97, 32, 98, 10]⟩]) = true := decide_eq_true HD.out
  rw [hdd] at ht
  have hB7 := HB6.out.alloc HB6.out.size (.cells #[.string ⟨#[119, 114, 105, 116, 101]⟩, .string ⟨#[103, 111, 46, 109, 111, 100]⟩, .string ⟨#[97, 32, 98, 10]⟩] 9)
  have hl7 : b3 < (x6.alloc (.cells #[.string ⟨#[119, 114, 105, 116, 101]⟩, .string ⟨#[103, 111, 46, 109, 111, 100]⟩, .string ⟨#[97, 32, 98, 10]⟩] 9)).heap.size := by simp; omega
  have hd0' : (x6.alloc (.cells #[.string ⟨#[119, 114, 105, 116, 101]⟩, .string ⟨#[103, 111, 46, 109, 111, 100]⟩, .string ⟨#[97, 32, 98, 10]⟩] 9)).cell? ⟨b3, 0, none⟩ = some (.int .i64 1) := Cells.alloc _ _ _ _ hd0
  have hd2' : (x6.alloc (.cells #[.string ⟨#[119, 114, 105, 116, 101]⟩, .string ⟨#[103, 111, 46, 109, 111, 100]⟩, .string ⟨#[97, 32, 98, 10]⟩] 9)).cell? ⟨b3, 2, none⟩ = some (.string ⟨#[97, 46, 120, 47, 100]⟩) := Cells.alloc _ _ _ _ hd2
  generalize (x6.alloc (.cells #[.string ⟨#[119, 114, 105, 116, 101]⟩, .string ⟨#[103, 111, 46, 109, 111, 100]⟩, .string ⟨#[97, 32, 98, 10]⟩] 9)) = x7 at *
  refine ht.mono ?_
  rintro e x8 ⟨rfl, nq, rfl⟩
  have HB8 := Lib.hid (below_drewN hB7 nq)
  clear ht hdd h1t h2t hB7
  go_wp2_with (first | (go_at_call 12; refine (num_any _ _).mono ?_; rintro e w' ⟨rfl, rfl⟩))
  go_ret
  exact ⟨rfl, HB8.out⟩
end Go.Proofs.YtlljjddgbilipaaGreatDoor
