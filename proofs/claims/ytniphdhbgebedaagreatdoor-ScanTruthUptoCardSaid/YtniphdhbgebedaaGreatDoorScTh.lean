/-
  The law ScanTruth.
-/
import Derived.Test.YtniphdhbgebedaaGreatDoorScTq
namespace Go.Proofs.YtniphdhbgebedaaGreatDoor
open Go.RowKit

set_option linter.unusedSimpArgs false

set_option linter.unusedSimpArgs false

attribute [local go_sem] lt1 lt2 lt3 lt4 lt5 lt6

def ThPost (w : World) (e : Ending) (w' : World) : Prop := e = .returned (.bool true) ∧ Below w.heap.size w w'
def ThR (w5 : World) (L : List ByteArray) (W8 : List Bool) (iv : Value) (wr : World) : Prop := ∃ k : Nat, k ≤ 8 ∧ iv = .int .i64 (k : Nat) ∧ Hid (wr.heap[w5.heap.size]? = some (.cells (txV L).toArray 9 (0, 0))) ∧ Hid (wr.heap[w5.heap.size + 1]? = some (.cells (W8.map Value.bool).toArray 4 (0, 0))) ∧ Hid (Below w5.heap.size w5 wr)
set_option maxRecDepth 100000 in
set_option maxHeartbeats 16000000 in
theorem truth_any (w : World) (hg : Glob w) (a b c : ByteArray) (A : Option Addr) (cp : Nat) (T : List ByteArray) (m : ByteArray) (hS : Sl w A cp T.length 1 (txV T)) (hl : T.length ≤ 1048576) (hz : ∀ t ∈ T, t.size ≤ 1048576) (ha : a.size ≤ 1048576) (hb : b.size ≤ 1048576) (hc : c.size ≤ 1048576) (hm : m.size ≤ 1048576) :
    Calls Tryz.prog 5 #[.string a, .string b, .string c, .slice A T.length cp, .string m] w (ThPost w) := by
  have hfi := first_any w hg
  have HF := Lib.hid hfi
  have HS := Lib.hid hS
  have HZ := Lib.hid hz
  obtain ⟨RP, hRP⟩ : ∃ RP, RP = ThPost w := ⟨_, rfl⟩
  rw [← hRP]
  have HRP := Lib.hid hRP
  clear hS hz hRP hfi hg
  go_enter Tryz.func5, Tryz.ntmps5
  go_wp2_with fail
  refine HF.out.mono ?_
  rintro e w1 ⟨rfl, hB1⟩
  have hS1 := HS.out.keep (Cells.of_below hB1)
  have hfew := few_any w1 A cp T hS1 hl HZ.out
  have HB1 := Lib.hid hB1
  have HS1 := Lib.hid hS1
  have HW := Lib.hid hfew
  have HOK : Hid (RP (.returned (.bool true)) w1) := Lib.hid (by rw [HRP.out]; exact ⟨rfl, HB1.out⟩)
  clear hB1 hS1 hfew HF
  go_wp2_with fail
  refine HW.out.mono ?_
  rintro e w2 ⟨bb, rfl, hbl, rfl⟩
  have Hbl := Lib.hid hbl
  clear hbl HW
  cases bb with
  | false =>
    go_wp2_with fail
    exact HOK.out
  | true =>
  have hT60 : T.length ≤ 60 := Hbl.out rfl
  by_cases ha1 : ((a.size : Int) > 100)
  · go_wp2_with fail
    exact HOK.out
  by_cases hb1 : ((b.size : Int) > 100)
  · go_wp2_with fail
    exact HOK.out
  by_cases hc1 : ((c.size : Int) > 100)
  · go_wp2_with fail
    exact HOK.out
  by_cases hm1 : ((m.size : Int) > 100)
  · go_wp2_with fail
    exact HOK.out
  have hev : ∀ (s : ByteArray) (T' : List ByteArray) (y : World) (A' : Option Addr) (c' : Nat), Sl y A' c' T'.length 1 (txV T') → T'.length ≤ 1048576 → Calls Tryz.prog 17 #[.string s, .slice A' T'.length c'] y (EvPost y (toL s) (hasT T')) := fun s T' y A' c' h h' => by
    have := eval_any y (toL s) A' c' T' h h'
    rwa [mkS_toL] at this
  have Hev := Lib.hid hev
  clear hev HOK
  have C1 := Lib.hid (Hev.out a T w2 A cp HS1.out hl)
  go_wp2_with fail
  refine C1.out.mono ?_
  rintro e w3 ⟨x, E1, rfl, hE1, hB3⟩
  have HS3 := Lib.hid (HS1.out.keep (Cells.of_below hB3))
  have C2 := Lib.hid (Hev.out b T w3 A cp HS3.out hl)
  have HE1 := Lib.hid hE1
  have HB3 := Lib.hid (HB1.out.trans (hB3.mono HB1.out.size))
  clear hE1 hB3 C1 HS1 HB1
  go_wp2_with fail
  refine C2.out.mono ?_
  rintro e w4 ⟨y, E2, rfl, hE2, hB4⟩
  have HS4 := Lib.hid (HS3.out.keep (Cells.of_below hB4))
  have C3 := Lib.hid (Hev.out c T w4 A cp HS4.out hl)
  have HE2 := Lib.hid hE2
  have HB4 := Lib.hid (HB3.out.trans (hB4.mono HB3.out.size))
  clear hE2 hB4 C2 HS3 HB3
  go_wp2_with fail
  refine C3.out.mono ?_
  rintro e w5 ⟨z, E3, rfl, hE3, hB5⟩
  have HS5 := Lib.hid (HS4.out.keep (Cells.of_below hB5))
  have HE3 := Lib.hid hE3
  have HB5 := Lib.hid (HB4.out.trans (hB5.mono HB4.out.size))
  have HOK : Hid (RP (.returned (.bool true)) w5) := Lib.hid (by rw [HRP.out]; exact ⟨rfl, HB5.out⟩)
  clear hE3 hB5 C3 HS4 HB4
  rcases ev_ok HE1.out with h1 | ⟨X, hX, hx, rfl⟩
  · go_wp2_with (go_at_call 14; refine (num_any _ _).mono ?_; rintro e y ⟨rfl, rfl⟩)
    all_goals first | exact HOK.out | (exfalso; simp_all; done)
  rcases ev_ok HE2.out with h2 | ⟨Y, hY, hy, rfl⟩
  · go_wp2_with (go_at_call 14; refine (num_any _ _).mono ?_; rintro e y ⟨rfl, rfl⟩)
    all_goals first | exact HOK.out | (exfalso; simp_all; done)
  rcases ev_ok HE3.out with h3 | ⟨Z, hZ, hz, rfl⟩
  · go_wp2_with (go_at_call 14; refine (num_any _ _).mono ?_; rintro e y ⟨rfl, rfl⟩)
    all_goals first | exact HOK.out | (exfalso; simp_all; done)
  have KEY : ∀ (k : Nat) (t : ByteArray) (B : Bool) (E : Int), (tru8 (parS a) (parS b) (parS c))[k]? = some t → EvIs (toL t) (hasT T) B E → (want8 x y z)[k]? = some B ∧ E = 0 := fun k t B E ht h => by
    have := tru8_ev hX hY hZ (by omega) (by omega) (by omega) ht h
    rwa [← hx, ← hy, ← hz] at this
  have HKEY := Lib.hid KEY
  have HX := Lib.hid hX
  have Hx := Lib.hid hx
  clear KEY hX hY hZ hx hy hz HE1 HE2 HE3
  have ha2 : a.size ≤ 100 := by omega
  have hb2 : b.size ≤ 100 := by omega
  have hc2 : c.size ≤ 100 := by omega
  have hm2 : m.size ≤ 100 := by omega
  clear ha1 hb1 hc1 hm1 ha hb hc hm
  cases x
  all_goals cases y
  all_goals cases z
  case true.true.true =>
    go_wp2_with (go_at_call 14; refine (num_any _ _).mono ?_; rintro e y ⟨rfl, rfl⟩)
    go_loopw [24, 25, 26] (fun iv _ _ wr => ThR w5 (tru8 (parS a) (parS b) (parS c)) (want8 true true true) iv wr) (fun iv _ _ _ => 8 - (intOf iv).toNat)
    case atStart =>
      refine ⟨0, by omega, rfl, ?_, ?_, ?_⟩
      · exact Lib.hid ((Below.heap_alloc _ _ _ (by simp)).trans (heap_alloc_new _ _))
      · exact Lib.hid (by have h := heap_alloc_new (w5.alloc (.cells (txV (tru8 (parS a) (parS b) (parS c))).toArray 9)) (.cells ((want8 true true true).map Value.bool).toArray 4); rw [World.size_alloc] at h; exact h)
      · exact Lib.hid (((Below.refl _ w5).alloc (Nat.le_refl _) _).alloc (by simp) _)
    case round =>
      obtain ⟨k, hk, rfl, HA, HB, HL⟩ := hrel
      have hkr : (0 : Int) ≤ k := by omega
      by_cases hlt : k < 8
      · have hkI : (k : Int) < 8 := by omega
        obtain ⟨t, ht⟩ : ∃ t, (tru8 (parS a) (parS b) (parS c))[k]? = some t := ⟨_, List.getElem?_eq_getElem hlt⟩
        have hct : wr.cell? ⟨w5.heap.size, k, none⟩ = some (.string t) := by
          have h := (blk_cells HA.out).1 k
          rw [h]
          simp [txV, ht]
        have Ht := Lib.hid ht
        have HSr := Lib.hid (HS5.out.keep (Cells.of_below HL.out))
        have CE := Lib.hid (Hev.out t T wr A cp HSr.out hl)
        clear ht
        go_wp2_with fail
        refine CE.out.mono ?_
        rintro e wq ⟨B, E, rfl, hE, hBq⟩
        obtain ⟨hw8, rfl⟩ := HKEY.out k t B E Ht.out hE
        have HAq := Lib.hid ((hBq.block _ (lt_of_heap HA.out)).trans HA.out)
        have HBq := Lib.hid ((hBq.block _ (lt_of_heap HB.out)).trans HB.out)
        have HLq := Lib.hid (HL.out.trans (hBq.mono HL.out.size))
        have hcb : wq.cell? ⟨w5.heap.size + 1, k, none⟩ = some (.bool B) := by
          have h := (blk_cells HBq.out).1 k
          rw [h]
          simp [hw8]
        clear hE hw8 hBq CE HA HB HL hct Ht HSr
        go_wp2_with (go_at_call 14; refine (num_any _ _).mono ?_; rintro e y ⟨rfl, rfl⟩)
        exact ⟨⟨k + 1, by omega, by go_num, HAq, HBq, HLq⟩, by simp [intOf]; omega⟩
      · have hkI : ¬ (k : Int) < 8 := by omega
        obtain rfl : k = 8 := by omega
        clear hlt hk hkI hkr
        go_wp2_with fail
        have HBr := Lib.hid (HB5.out.trans (HL.out.mono HB5.out.size))
        have HSr := Lib.hid (HS5.out.keep (Cells.of_below HL.out))
        clear HA HB HL HKEY HS5 HB5 HOK
        go_loop [27, 28] (fun sv iv => SpR a m sv iv) (fun _ iv => 102 - (intOf iv).toNat)
        case atStart => exact ⟨0, false, rfl, rfl, by omega, Lib.hid fun _ j hj => by omega⟩
        case round =>
          obtain ⟨k, sp, rfl, rfl, hk, Hno⟩ := hrel
          have hkr : (0 : Int) ≤ k := by omega
          have hw : wrap64 ((k : Int) + (m.size : Int)) = (k : Int) + m.size := by unfold wrap64; omega
          by_cases hlt : k + m.size ≤ a.size
          · have hkI : (k : Int) + m.size ≤ a.size := by omega
            cases sp with
            | true =>
              go_wp2_with fail
              exact ⟨⟨k + 1, true, rfl, by go_num, by omega, Lib.hid fun h => by cases h⟩, by simp [intOf]; omega⟩
            | false =>
              have hseq := str_eq (a.extract k (k + m.size)) m
              by_cases he : a.extract k (k + m.size) = m
              · rw [decide_eq_true he] at hseq
                clear he
                go_wp2_with fail
                exact ⟨⟨k + 1, true, rfl, by go_num, by omega, Lib.hid fun h => by cases h⟩, by simp [intOf]; omega⟩
              · rw [decide_eq_false he] at hseq
                have Hno2 : Hid (false = false → ∀ j, j < k + 1 → a.extract j (j + m.size) ≠ m) := Lib.hid fun _ j hj => by
                  rcases Nat.lt_or_ge j k with h2 | h2
                  · exact Hno.out rfl j h2
                  · obtain rfl : j = k := by omega
                    exact he
                clear he
                go_wp2_with fail
                exact ⟨⟨k + 1, false, rfl, by go_num, by omega, Hno2⟩, by simp [intOf]; omega⟩
          · have hkI : ¬ (k : Int) + m.size ≤ a.size := by omega
            have Hsp : Hid (sp = false → ¬ (toL m <:+: toL a)) := Lib.hid fun h => sp_end (Hno.out h) (by omega)
            clear Hno
            obtain ⟨iS, hiS, hzS, hsS, hbS⟩ := info_parts infoStr1
            obtain ⟨x0, hx0⟩ : ∃ x, wr.alloc (.cells #[] 9) = x := ⟨_, rfl⟩
            have ho0 : x0.ownsRow wr.heap.size 9 1 (.slice (some ⟨wr.heap.size, 0, none⟩) 0 0) 0 [] := by rw [← hx0]; exact own_empty (Nat.le_refl _)
            have hb0 : Below wr.heap.size wr x0 := by rw [← hx0]; exact (Below.refl _ wr).alloc (Nat.le_refl _) _
            have hSx := HSr.out.keep (Cells.of_below hb0)
            have hs0 : wr.heap.size ≤ x0.heap.size := hb0.size
            have HO0 := Lib.hid ho0
            have HB0 := Lib.hid hb0
            have HSx := Lib.hid hSx
            have HX0 := Lib.hid hx0
            have Hbig : Hid (0 + T.length ≤ maxLen ∧ (0 + T.length) * 16 ≤ 140737488355328) := Lib.hid ⟨by unfold maxLen; omega, by omega⟩
            clear hx0 ho0 hb0 hSx
            go_wp2_with (at_builtin; rw [HX0.out]; refine append_any _ rfl (.tmp 235) (.tmp 236) 22 rfl wr.heap.size 9 iS (.string ByteArray.empty) 16 Tryz.underlying22 hiS hzS hsS hbS rfl (.slice (some ⟨wr.heap.size, 0, none⟩) 0 0) 0 [] rfl HO0.out A T.length cp (txV T) rfl HSx.out (txV_one _) Hbig.out.1 Hbig.out.2 hs0 ?_)
            intro v1 x1 hown1 hgrow1
            have hb1 : Below wr.heap.size wr x1 := HB0.out.grown hgrow1 hs0 (fun q hq => (own_blk HO0.out q hq).1)
            have hs1 := hb1.size
            obtain ⟨x2, hx2⟩ : ∃ x, x1.alloc (.cells #[.string m] 9) = x := ⟨_, rfl⟩
            have hown2 : x2.ownsRow wr.heap.size 9 1 v1 T.length (txV T) := by rw [← hx2]; exact hown1.alloc _
            have hb2 : Below wr.heap.size wr x2 := by rw [← hx2]; exact hb1.alloc hs1 _
            have hs2 := hb2.size
            have hSm : Sl x2 (some ⟨x1.heap.size, 0, none⟩) 1 1 1 (txV [m]) := by rw [← hx2]; exact sl_one
            have HO2 := Lib.hid hown2
            have HB2 := Lib.hid hb2
            have HSm := Lib.hid hSm
            have HX2 := Lib.hid hx2
            have Hbig2 : Hid (T.length + 1 ≤ maxLen ∧ (T.length + 1) * 16 ≤ 140737488355328) := Lib.hid ⟨by unfold maxLen; omega, by omega⟩
            clear hown1 hgrow1 hb1 hs1 hown2 hb2 hSm hx2 HO0 HB0 HSx Hbig hs0
            go_wp2_with (at_builtin; rw [HX2.out]; refine append_any _ rfl (.tmp 237) (.tmp 239) 22 rfl wr.heap.size 9 iS (.string ByteArray.empty) 16 Tryz.underlying22 hiS hzS hsS hbS rfl v1 T.length (txV T) rfl HO2.out (some ⟨x1.heap.size, 0, none⟩) 1 1 (txV [m]) rfl HSm.out (txV_one _) Hbig2.out.1 Hbig2.out.2 hs2 ?_)
            intro v3 x3 hown3 hgrow3
            have hb3 : Below wr.heap.size wr x3 := HB2.out.grown hgrow3 hs2 (fun q hq => (own_blk HO2.out q hq).1)
            obtain ⟨A3, c3, rfl, hS3⟩ := row_sl hown3
            rw [show txV T ++ [Value.string m] = txV (T ++ [m]) from txV_app T [m]] at hS3
            have hlen3 : (T ++ [m]).length = T.length + 1 := by simp
            have hev3 := Hev.out a (T ++ [m]) x3 A3 c3 (by rw [hlen3]; exact hS3) (by omega)
            rw [hlen3] at hev3
            have HEv3 := Lib.hid hev3
            have HB3 := Lib.hid hb3
            clear hown3 hgrow3 hb3 hS3 hev3 hs2 HB2 HO2 HSm HX2 Hbig2 hlen3
            go_wp2_with fail
            refine HEv3.out.mono ?_
            rintro e w9 ⟨B, E, rfl, hE, hB9⟩
            obtain ⟨hB, rfl⟩ := ev_whole hE HX.out (by rw [toL_len]; omega)
            have HOK : Hid (RP (.returned (.bool true)) w9) := Lib.hid (by rw [HRP.out]; exact ⟨rfl, (HBr.out.trans (HB3.out.mono HBr.out.size)).trans (hB9.mono (HBr.out.trans (HB3.out.mono HBr.out.size)).size)⟩)
            have Hsame : Hid (sp = false → B = true) := Lib.hid fun h => by rw [hB, ev_more HX.out (Hsp.out h), ← Hx.out]
            clear hE hB9 hB HEv3 HB3 Hsp
            cases sp with
            | true =>
              go_wp2_with fail
              exact HOK.out
            | false =>
              obtain rfl := Hsame.out rfl
              go_wp2_with (go_at_call 14; refine (num_any _ _).mono ?_; rintro e y ⟨rfl, rfl⟩)
              exact HOK.out
  case true.true.false =>
    go_wp2_with (go_at_call 14; refine (num_any _ _).mono ?_; rintro e y ⟨rfl, rfl⟩)
    go_loopw [24, 25, 26] (fun iv _ _ wr => ThR w5 (tru8 (parS a) (parS b) (parS c)) (want8 true true false) iv wr) (fun iv _ _ _ => 8 - (intOf iv).toNat)
    case atStart =>
      refine ⟨0, by omega, rfl, ?_, ?_, ?_⟩
      · exact Lib.hid ((Below.heap_alloc _ _ _ (by simp)).trans (heap_alloc_new _ _))
      · exact Lib.hid (by have h := heap_alloc_new (w5.alloc (.cells (txV (tru8 (parS a) (parS b) (parS c))).toArray 9)) (.cells ((want8 true true false).map Value.bool).toArray 4); rw [World.size_alloc] at h; exact h)
      · exact Lib.hid (((Below.refl _ w5).alloc (Nat.le_refl _) _).alloc (by simp) _)
    case round =>
      obtain ⟨k, hk, rfl, HA, HB, HL⟩ := hrel
      have hkr : (0 : Int) ≤ k := by omega
      by_cases hlt : k < 8
      · have hkI : (k : Int) < 8 := by omega
        obtain ⟨t, ht⟩ : ∃ t, (tru8 (parS a) (parS b) (parS c))[k]? = some t := ⟨_, List.getElem?_eq_getElem hlt⟩
        have hct : wr.cell? ⟨w5.heap.size, k, none⟩ = some (.string t) := by
          have h := (blk_cells HA.out).1 k
          rw [h]
          simp [txV, ht]
        have Ht := Lib.hid ht
        have HSr := Lib.hid (HS5.out.keep (Cells.of_below HL.out))
        have CE := Lib.hid (Hev.out t T wr A cp HSr.out hl)
        clear ht
        go_wp2_with fail
        refine CE.out.mono ?_
        rintro e wq ⟨B, E, rfl, hE, hBq⟩
        obtain ⟨hw8, rfl⟩ := HKEY.out k t B E Ht.out hE
        have HAq := Lib.hid ((hBq.block _ (lt_of_heap HA.out)).trans HA.out)
        have HBq := Lib.hid ((hBq.block _ (lt_of_heap HB.out)).trans HB.out)
        have HLq := Lib.hid (HL.out.trans (hBq.mono HL.out.size))
        have hcb : wq.cell? ⟨w5.heap.size + 1, k, none⟩ = some (.bool B) := by
          have h := (blk_cells HBq.out).1 k
          rw [h]
          simp [hw8]
        clear hE hw8 hBq CE HA HB HL hct Ht HSr
        go_wp2_with (go_at_call 14; refine (num_any _ _).mono ?_; rintro e y ⟨rfl, rfl⟩)
        exact ⟨⟨k + 1, by omega, by go_num, HAq, HBq, HLq⟩, by simp [intOf]; omega⟩
      · have hkI : ¬ (k : Int) < 8 := by omega
        obtain rfl : k = 8 := by omega
        clear hlt hk hkI hkr
        go_wp2_with fail
        have HBr := Lib.hid (HB5.out.trans (HL.out.mono HB5.out.size))
        have HSr := Lib.hid (HS5.out.keep (Cells.of_below HL.out))
        clear HA HB HL HKEY HS5 HB5 HOK
        go_loop [27, 28] (fun sv iv => SpR a m sv iv) (fun _ iv => 102 - (intOf iv).toNat)
        case atStart => exact ⟨0, false, rfl, rfl, by omega, Lib.hid fun _ j hj => by omega⟩
        case round =>
          obtain ⟨k, sp, rfl, rfl, hk, Hno⟩ := hrel
          have hkr : (0 : Int) ≤ k := by omega
          have hw : wrap64 ((k : Int) + (m.size : Int)) = (k : Int) + m.size := by unfold wrap64; omega
          by_cases hlt : k + m.size ≤ a.size
          · have hkI : (k : Int) + m.size ≤ a.size := by omega
            cases sp with
            | true =>
              go_wp2_with fail
              exact ⟨⟨k + 1, true, rfl, by go_num, by omega, Lib.hid fun h => by cases h⟩, by simp [intOf]; omega⟩
            | false =>
              have hseq := str_eq (a.extract k (k + m.size)) m
              by_cases he : a.extract k (k + m.size) = m
              · rw [decide_eq_true he] at hseq
                clear he
                go_wp2_with fail
                exact ⟨⟨k + 1, true, rfl, by go_num, by omega, Lib.hid fun h => by cases h⟩, by simp [intOf]; omega⟩
              · rw [decide_eq_false he] at hseq
                have Hno2 : Hid (false = false → ∀ j, j < k + 1 → a.extract j (j + m.size) ≠ m) := Lib.hid fun _ j hj => by
                  rcases Nat.lt_or_ge j k with h2 | h2
                  · exact Hno.out rfl j h2
                  · obtain rfl : j = k := by omega
                    exact he
                clear he
                go_wp2_with fail
                exact ⟨⟨k + 1, false, rfl, by go_num, by omega, Hno2⟩, by simp [intOf]; omega⟩
          · have hkI : ¬ (k : Int) + m.size ≤ a.size := by omega
            have Hsp : Hid (sp = false → ¬ (toL m <:+: toL a)) := Lib.hid fun h => sp_end (Hno.out h) (by omega)
            clear Hno
            obtain ⟨iS, hiS, hzS, hsS, hbS⟩ := info_parts infoStr1
            obtain ⟨x0, hx0⟩ : ∃ x, wr.alloc (.cells #[] 9) = x := ⟨_, rfl⟩
            have ho0 : x0.ownsRow wr.heap.size 9 1 (.slice (some ⟨wr.heap.size, 0, none⟩) 0 0) 0 [] := by rw [← hx0]; exact own_empty (Nat.le_refl _)
            have hb0 : Below wr.heap.size wr x0 := by rw [← hx0]; exact (Below.refl _ wr).alloc (Nat.le_refl _) _
            have hSx := HSr.out.keep (Cells.of_below hb0)
            have hs0 : wr.heap.size ≤ x0.heap.size := hb0.size
            have HO0 := Lib.hid ho0
            have HB0 := Lib.hid hb0
            have HSx := Lib.hid hSx
            have HX0 := Lib.hid hx0
            have Hbig : Hid (0 + T.length ≤ maxLen ∧ (0 + T.length) * 16 ≤ 140737488355328) := Lib.hid ⟨by unfold maxLen; omega, by omega⟩
            clear hx0 ho0 hb0 hSx
            go_wp2_with (at_builtin; rw [HX0.out]; refine append_any _ rfl (.tmp 235) (.tmp 236) 22 rfl wr.heap.size 9 iS (.string ByteArray.empty) 16 Tryz.underlying22 hiS hzS hsS hbS rfl (.slice (some ⟨wr.heap.size, 0, none⟩) 0 0) 0 [] rfl HO0.out A T.length cp (txV T) rfl HSx.out (txV_one _) Hbig.out.1 Hbig.out.2 hs0 ?_)
            intro v1 x1 hown1 hgrow1
            have hb1 : Below wr.heap.size wr x1 := HB0.out.grown hgrow1 hs0 (fun q hq => (own_blk HO0.out q hq).1)
            have hs1 := hb1.size
            obtain ⟨x2, hx2⟩ : ∃ x, x1.alloc (.cells #[.string m] 9) = x := ⟨_, rfl⟩
            have hown2 : x2.ownsRow wr.heap.size 9 1 v1 T.length (txV T) := by rw [← hx2]; exact hown1.alloc _
            have hb2 : Below wr.heap.size wr x2 := by rw [← hx2]; exact hb1.alloc hs1 _
            have hs2 := hb2.size
            have hSm : Sl x2 (some ⟨x1.heap.size, 0, none⟩) 1 1 1 (txV [m]) := by rw [← hx2]; exact sl_one
            have HO2 := Lib.hid hown2
            have HB2 := Lib.hid hb2
            have HSm := Lib.hid hSm
            have HX2 := Lib.hid hx2
            have Hbig2 : Hid (T.length + 1 ≤ maxLen ∧ (T.length + 1) * 16 ≤ 140737488355328) := Lib.hid ⟨by unfold maxLen; omega, by omega⟩
            clear hown1 hgrow1 hb1 hs1 hown2 hb2 hSm hx2 HO0 HB0 HSx Hbig hs0
            go_wp2_with (at_builtin; rw [HX2.out]; refine append_any _ rfl (.tmp 237) (.tmp 239) 22 rfl wr.heap.size 9 iS (.string ByteArray.empty) 16 Tryz.underlying22 hiS hzS hsS hbS rfl v1 T.length (txV T) rfl HO2.out (some ⟨x1.heap.size, 0, none⟩) 1 1 (txV [m]) rfl HSm.out (txV_one _) Hbig2.out.1 Hbig2.out.2 hs2 ?_)
            intro v3 x3 hown3 hgrow3
            have hb3 : Below wr.heap.size wr x3 := HB2.out.grown hgrow3 hs2 (fun q hq => (own_blk HO2.out q hq).1)
            obtain ⟨A3, c3, rfl, hS3⟩ := row_sl hown3
            rw [show txV T ++ [Value.string m] = txV (T ++ [m]) from txV_app T [m]] at hS3
            have hlen3 : (T ++ [m]).length = T.length + 1 := by simp
            have hev3 := Hev.out a (T ++ [m]) x3 A3 c3 (by rw [hlen3]; exact hS3) (by omega)
            rw [hlen3] at hev3
            have HEv3 := Lib.hid hev3
            have HB3 := Lib.hid hb3
            clear hown3 hgrow3 hb3 hS3 hev3 hs2 HB2 HO2 HSm HX2 Hbig2 hlen3
            go_wp2_with fail
            refine HEv3.out.mono ?_
            rintro e w9 ⟨B, E, rfl, hE, hB9⟩
            obtain ⟨hB, rfl⟩ := ev_whole hE HX.out (by rw [toL_len]; omega)
            have HOK : Hid (RP (.returned (.bool true)) w9) := Lib.hid (by rw [HRP.out]; exact ⟨rfl, (HBr.out.trans (HB3.out.mono HBr.out.size)).trans (hB9.mono (HBr.out.trans (HB3.out.mono HBr.out.size)).size)⟩)
            have Hsame : Hid (sp = false → B = true) := Lib.hid fun h => by rw [hB, ev_more HX.out (Hsp.out h), ← Hx.out]
            clear hE hB9 hB HEv3 HB3 Hsp
            cases sp with
            | true =>
              go_wp2_with fail
              exact HOK.out
            | false =>
              obtain rfl := Hsame.out rfl
              go_wp2_with (go_at_call 14; refine (num_any _ _).mono ?_; rintro e y ⟨rfl, rfl⟩)
              exact HOK.out
  case true.false.true =>
    go_wp2_with (go_at_call 14; refine (num_any _ _).mono ?_; rintro e y ⟨rfl, rfl⟩)
    go_loopw [24, 25, 26] (fun iv _ _ wr => ThR w5 (tru8 (parS a) (parS b) (parS c)) (want8 true false true) iv wr) (fun iv _ _ _ => 8 - (intOf iv).toNat)
    case atStart =>
      refine ⟨0, by omega, rfl, ?_, ?_, ?_⟩
      · exact Lib.hid ((Below.heap_alloc _ _ _ (by simp)).trans (heap_alloc_new _ _))
      · exact Lib.hid (by have h := heap_alloc_new (w5.alloc (.cells (txV (tru8 (parS a) (parS b) (parS c))).toArray 9)) (.cells ((want8 true false true).map Value.bool).toArray 4); rw [World.size_alloc] at h; exact h)
      · exact Lib.hid (((Below.refl _ w5).alloc (Nat.le_refl _) _).alloc (by simp) _)
    case round =>
      obtain ⟨k, hk, rfl, HA, HB, HL⟩ := hrel
      have hkr : (0 : Int) ≤ k := by omega
      by_cases hlt : k < 8
      · have hkI : (k : Int) < 8 := by omega
        obtain ⟨t, ht⟩ : ∃ t, (tru8 (parS a) (parS b) (parS c))[k]? = some t := ⟨_, List.getElem?_eq_getElem hlt⟩
        have hct : wr.cell? ⟨w5.heap.size, k, none⟩ = some (.string t) := by
          have h := (blk_cells HA.out).1 k
          rw [h]
          simp [txV, ht]
        have Ht := Lib.hid ht
        have HSr := Lib.hid (HS5.out.keep (Cells.of_below HL.out))
        have CE := Lib.hid (Hev.out t T wr A cp HSr.out hl)
        clear ht
        go_wp2_with fail
        refine CE.out.mono ?_
        rintro e wq ⟨B, E, rfl, hE, hBq⟩
        obtain ⟨hw8, rfl⟩ := HKEY.out k t B E Ht.out hE
        have HAq := Lib.hid ((hBq.block _ (lt_of_heap HA.out)).trans HA.out)
        have HBq := Lib.hid ((hBq.block _ (lt_of_heap HB.out)).trans HB.out)
        have HLq := Lib.hid (HL.out.trans (hBq.mono HL.out.size))
        have hcb : wq.cell? ⟨w5.heap.size + 1, k, none⟩ = some (.bool B) := by
          have h := (blk_cells HBq.out).1 k
          rw [h]
          simp [hw8]
        clear hE hw8 hBq CE HA HB HL hct Ht HSr
        go_wp2_with (go_at_call 14; refine (num_any _ _).mono ?_; rintro e y ⟨rfl, rfl⟩)
        exact ⟨⟨k + 1, by omega, by go_num, HAq, HBq, HLq⟩, by simp [intOf]; omega⟩
      · have hkI : ¬ (k : Int) < 8 := by omega
        obtain rfl : k = 8 := by omega
        clear hlt hk hkI hkr
        go_wp2_with fail
        have HBr := Lib.hid (HB5.out.trans (HL.out.mono HB5.out.size))
        have HSr := Lib.hid (HS5.out.keep (Cells.of_below HL.out))
        clear HA HB HL HKEY HS5 HB5 HOK
        go_loop [27, 28] (fun sv iv => SpR a m sv iv) (fun _ iv => 102 - (intOf iv).toNat)
        case atStart => exact ⟨0, false, rfl, rfl, by omega, Lib.hid fun _ j hj => by omega⟩
        case round =>
          obtain ⟨k, sp, rfl, rfl, hk, Hno⟩ := hrel
          have hkr : (0 : Int) ≤ k := by omega
          have hw : wrap64 ((k : Int) + (m.size : Int)) = (k : Int) + m.size := by unfold wrap64; omega
          by_cases hlt : k + m.size ≤ a.size
          · have hkI : (k : Int) + m.size ≤ a.size := by omega
            cases sp with
            | true =>
              go_wp2_with fail
              exact ⟨⟨k + 1, true, rfl, by go_num, by omega, Lib.hid fun h => by cases h⟩, by simp [intOf]; omega⟩
            | false =>
              have hseq := str_eq (a.extract k (k + m.size)) m
              by_cases he : a.extract k (k + m.size) = m
              · rw [decide_eq_true he] at hseq
                clear he
                go_wp2_with fail
                exact ⟨⟨k + 1, true, rfl, by go_num, by omega, Lib.hid fun h => by cases h⟩, by simp [intOf]; omega⟩
              · rw [decide_eq_false he] at hseq
                have Hno2 : Hid (false = false → ∀ j, j < k + 1 → a.extract j (j + m.size) ≠ m) := Lib.hid fun _ j hj => by
                  rcases Nat.lt_or_ge j k with h2 | h2
                  · exact Hno.out rfl j h2
                  · obtain rfl : j = k := by omega
                    exact he
                clear he
                go_wp2_with fail
                exact ⟨⟨k + 1, false, rfl, by go_num, by omega, Hno2⟩, by simp [intOf]; omega⟩
          · have hkI : ¬ (k : Int) + m.size ≤ a.size := by omega
            have Hsp : Hid (sp = false → ¬ (toL m <:+: toL a)) := Lib.hid fun h => sp_end (Hno.out h) (by omega)
            clear Hno
            obtain ⟨iS, hiS, hzS, hsS, hbS⟩ := info_parts infoStr1
            obtain ⟨x0, hx0⟩ : ∃ x, wr.alloc (.cells #[] 9) = x := ⟨_, rfl⟩
            have ho0 : x0.ownsRow wr.heap.size 9 1 (.slice (some ⟨wr.heap.size, 0, none⟩) 0 0) 0 [] := by rw [← hx0]; exact own_empty (Nat.le_refl _)
            have hb0 : Below wr.heap.size wr x0 := by rw [← hx0]; exact (Below.refl _ wr).alloc (Nat.le_refl _) _
            have hSx := HSr.out.keep (Cells.of_below hb0)
            have hs0 : wr.heap.size ≤ x0.heap.size := hb0.size
            have HO0 := Lib.hid ho0
            have HB0 := Lib.hid hb0
            have HSx := Lib.hid hSx
            have HX0 := Lib.hid hx0
            have Hbig : Hid (0 + T.length ≤ maxLen ∧ (0 + T.length) * 16 ≤ 140737488355328) := Lib.hid ⟨by unfold maxLen; omega, by omega⟩
            clear hx0 ho0 hb0 hSx
            go_wp2_with (at_builtin; rw [HX0.out]; refine append_any _ rfl (.tmp 235) (.tmp 236) 22 rfl wr.heap.size 9 iS (.string ByteArray.empty) 16 Tryz.underlying22 hiS hzS hsS hbS rfl (.slice (some ⟨wr.heap.size, 0, none⟩) 0 0) 0 [] rfl HO0.out A T.length cp (txV T) rfl HSx.out (txV_one _) Hbig.out.1 Hbig.out.2 hs0 ?_)
            intro v1 x1 hown1 hgrow1
            have hb1 : Below wr.heap.size wr x1 := HB0.out.grown hgrow1 hs0 (fun q hq => (own_blk HO0.out q hq).1)
            have hs1 := hb1.size
            obtain ⟨x2, hx2⟩ : ∃ x, x1.alloc (.cells #[.string m] 9) = x := ⟨_, rfl⟩
            have hown2 : x2.ownsRow wr.heap.size 9 1 v1 T.length (txV T) := by rw [← hx2]; exact hown1.alloc _
            have hb2 : Below wr.heap.size wr x2 := by rw [← hx2]; exact hb1.alloc hs1 _
            have hs2 := hb2.size
            have hSm : Sl x2 (some ⟨x1.heap.size, 0, none⟩) 1 1 1 (txV [m]) := by rw [← hx2]; exact sl_one
            have HO2 := Lib.hid hown2
            have HB2 := Lib.hid hb2
            have HSm := Lib.hid hSm
            have HX2 := Lib.hid hx2
            have Hbig2 : Hid (T.length + 1 ≤ maxLen ∧ (T.length + 1) * 16 ≤ 140737488355328) := Lib.hid ⟨by unfold maxLen; omega, by omega⟩
            clear hown1 hgrow1 hb1 hs1 hown2 hb2 hSm hx2 HO0 HB0 HSx Hbig hs0
            go_wp2_with (at_builtin; rw [HX2.out]; refine append_any _ rfl (.tmp 237) (.tmp 239) 22 rfl wr.heap.size 9 iS (.string ByteArray.empty) 16 Tryz.underlying22 hiS hzS hsS hbS rfl v1 T.length (txV T) rfl HO2.out (some ⟨x1.heap.size, 0, none⟩) 1 1 (txV [m]) rfl HSm.out (txV_one _) Hbig2.out.1 Hbig2.out.2 hs2 ?_)
            intro v3 x3 hown3 hgrow3
            have hb3 : Below wr.heap.size wr x3 := HB2.out.grown hgrow3 hs2 (fun q hq => (own_blk HO2.out q hq).1)
            obtain ⟨A3, c3, rfl, hS3⟩ := row_sl hown3
            rw [show txV T ++ [Value.string m] = txV (T ++ [m]) from txV_app T [m]] at hS3
            have hlen3 : (T ++ [m]).length = T.length + 1 := by simp
            have hev3 := Hev.out a (T ++ [m]) x3 A3 c3 (by rw [hlen3]; exact hS3) (by omega)
            rw [hlen3] at hev3
            have HEv3 := Lib.hid hev3
            have HB3 := Lib.hid hb3
            clear hown3 hgrow3 hb3 hS3 hev3 hs2 HB2 HO2 HSm HX2 Hbig2 hlen3
            go_wp2_with fail
            refine HEv3.out.mono ?_
            rintro e w9 ⟨B, E, rfl, hE, hB9⟩
            obtain ⟨hB, rfl⟩ := ev_whole hE HX.out (by rw [toL_len]; omega)
            have HOK : Hid (RP (.returned (.bool true)) w9) := Lib.hid (by rw [HRP.out]; exact ⟨rfl, (HBr.out.trans (HB3.out.mono HBr.out.size)).trans (hB9.mono (HBr.out.trans (HB3.out.mono HBr.out.size)).size)⟩)
            have Hsame : Hid (sp = false → B = true) := Lib.hid fun h => by rw [hB, ev_more HX.out (Hsp.out h), ← Hx.out]
            clear hE hB9 hB HEv3 HB3 Hsp
            cases sp with
            | true =>
              go_wp2_with fail
              exact HOK.out
            | false =>
              obtain rfl := Hsame.out rfl
              go_wp2_with (go_at_call 14; refine (num_any _ _).mono ?_; rintro e y ⟨rfl, rfl⟩)
              exact HOK.out
  case true.false.false =>
    go_wp2_with (go_at_call 14; refine (num_any _ _).mono ?_; rintro e y ⟨rfl, rfl⟩)
    go_loopw [24, 25, 26] (fun iv _ _ wr => ThR w5 (tru8 (parS a) (parS b) (parS c)) (want8 true false false) iv wr) (fun iv _ _ _ => 8 - (intOf iv).toNat)
    case atStart =>
      refine ⟨0, by omega, rfl, ?_, ?_, ?_⟩
      · exact Lib.hid ((Below.heap_alloc _ _ _ (by simp)).trans (heap_alloc_new _ _))
      · exact Lib.hid (by have h := heap_alloc_new (w5.alloc (.cells (txV (tru8 (parS a) (parS b) (parS c))).toArray 9)) (.cells ((want8 true false false).map Value.bool).toArray 4); rw [World.size_alloc] at h; exact h)
      · exact Lib.hid (((Below.refl _ w5).alloc (Nat.le_refl _) _).alloc (by simp) _)
    case round =>
      obtain ⟨k, hk, rfl, HA, HB, HL⟩ := hrel
      have hkr : (0 : Int) ≤ k := by omega
      by_cases hlt : k < 8
      · have hkI : (k : Int) < 8 := by omega
        obtain ⟨t, ht⟩ : ∃ t, (tru8 (parS a) (parS b) (parS c))[k]? = some t := ⟨_, List.getElem?_eq_getElem hlt⟩
        have hct : wr.cell? ⟨w5.heap.size, k, none⟩ = some (.string t) := by
          have h := (blk_cells HA.out).1 k
          rw [h]
          simp [txV, ht]
        have Ht := Lib.hid ht
        have HSr := Lib.hid (HS5.out.keep (Cells.of_below HL.out))
        have CE := Lib.hid (Hev.out t T wr A cp HSr.out hl)
        clear ht
        go_wp2_with fail
        refine CE.out.mono ?_
        rintro e wq ⟨B, E, rfl, hE, hBq⟩
        obtain ⟨hw8, rfl⟩ := HKEY.out k t B E Ht.out hE
        have HAq := Lib.hid ((hBq.block _ (lt_of_heap HA.out)).trans HA.out)
        have HBq := Lib.hid ((hBq.block _ (lt_of_heap HB.out)).trans HB.out)
        have HLq := Lib.hid (HL.out.trans (hBq.mono HL.out.size))
        have hcb : wq.cell? ⟨w5.heap.size + 1, k, none⟩ = some (.bool B) := by
          have h := (blk_cells HBq.out).1 k
          rw [h]
          simp [hw8]
        clear hE hw8 hBq CE HA HB HL hct Ht HSr
        go_wp2_with (go_at_call 14; refine (num_any _ _).mono ?_; rintro e y ⟨rfl, rfl⟩)
        exact ⟨⟨k + 1, by omega, by go_num, HAq, HBq, HLq⟩, by simp [intOf]; omega⟩
      · have hkI : ¬ (k : Int) < 8 := by omega
        obtain rfl : k = 8 := by omega
        clear hlt hk hkI hkr
        go_wp2_with fail
        have HBr := Lib.hid (HB5.out.trans (HL.out.mono HB5.out.size))
        have HSr := Lib.hid (HS5.out.keep (Cells.of_below HL.out))
        clear HA HB HL HKEY HS5 HB5 HOK
        go_loop [27, 28] (fun sv iv => SpR a m sv iv) (fun _ iv => 102 - (intOf iv).toNat)
        case atStart => exact ⟨0, false, rfl, rfl, by omega, Lib.hid fun _ j hj => by omega⟩
        case round =>
          obtain ⟨k, sp, rfl, rfl, hk, Hno⟩ := hrel
          have hkr : (0 : Int) ≤ k := by omega
          have hw : wrap64 ((k : Int) + (m.size : Int)) = (k : Int) + m.size := by unfold wrap64; omega
          by_cases hlt : k + m.size ≤ a.size
          · have hkI : (k : Int) + m.size ≤ a.size := by omega
            cases sp with
            | true =>
              go_wp2_with fail
              exact ⟨⟨k + 1, true, rfl, by go_num, by omega, Lib.hid fun h => by cases h⟩, by simp [intOf]; omega⟩
            | false =>
              have hseq := str_eq (a.extract k (k + m.size)) m
              by_cases he : a.extract k (k + m.size) = m
              · rw [decide_eq_true he] at hseq
                clear he
                go_wp2_with fail
                exact ⟨⟨k + 1, true, rfl, by go_num, by omega, Lib.hid fun h => by cases h⟩, by simp [intOf]; omega⟩
              · rw [decide_eq_false he] at hseq
                have Hno2 : Hid (false = false → ∀ j, j < k + 1 → a.extract j (j + m.size) ≠ m) := Lib.hid fun _ j hj => by
                  rcases Nat.lt_or_ge j k with h2 | h2
                  · exact Hno.out rfl j h2
                  · obtain rfl : j = k := by omega
                    exact he
                clear he
                go_wp2_with fail
                exact ⟨⟨k + 1, false, rfl, by go_num, by omega, Hno2⟩, by simp [intOf]; omega⟩
          · have hkI : ¬ (k : Int) + m.size ≤ a.size := by omega
            have Hsp : Hid (sp = false → ¬ (toL m <:+: toL a)) := Lib.hid fun h => sp_end (Hno.out h) (by omega)
            clear Hno
            obtain ⟨iS, hiS, hzS, hsS, hbS⟩ := info_parts infoStr1
            obtain ⟨x0, hx0⟩ : ∃ x, wr.alloc (.cells #[] 9) = x := ⟨_, rfl⟩
            have ho0 : x0.ownsRow wr.heap.size 9 1 (.slice (some ⟨wr.heap.size, 0, none⟩) 0 0) 0 [] := by rw [← hx0]; exact own_empty (Nat.le_refl _)
            have hb0 : Below wr.heap.size wr x0 := by rw [← hx0]; exact (Below.refl _ wr).alloc (Nat.le_refl _) _
            have hSx := HSr.out.keep (Cells.of_below hb0)
            have hs0 : wr.heap.size ≤ x0.heap.size := hb0.size
            have HO0 := Lib.hid ho0
            have HB0 := Lib.hid hb0
            have HSx := Lib.hid hSx
            have HX0 := Lib.hid hx0
            have Hbig : Hid (0 + T.length ≤ maxLen ∧ (0 + T.length) * 16 ≤ 140737488355328) := Lib.hid ⟨by unfold maxLen; omega, by omega⟩
            clear hx0 ho0 hb0 hSx
            go_wp2_with (at_builtin; rw [HX0.out]; refine append_any _ rfl (.tmp 235) (.tmp 236) 22 rfl wr.heap.size 9 iS (.string ByteArray.empty) 16 Tryz.underlying22 hiS hzS hsS hbS rfl (.slice (some ⟨wr.heap.size, 0, none⟩) 0 0) 0 [] rfl HO0.out A T.length cp (txV T) rfl HSx.out (txV_one _) Hbig.out.1 Hbig.out.2 hs0 ?_)
            intro v1 x1 hown1 hgrow1
            have hb1 : Below wr.heap.size wr x1 := HB0.out.grown hgrow1 hs0 (fun q hq => (own_blk HO0.out q hq).1)
            have hs1 := hb1.size
            obtain ⟨x2, hx2⟩ : ∃ x, x1.alloc (.cells #[.string m] 9) = x := ⟨_, rfl⟩
            have hown2 : x2.ownsRow wr.heap.size 9 1 v1 T.length (txV T) := by rw [← hx2]; exact hown1.alloc _
            have hb2 : Below wr.heap.size wr x2 := by rw [← hx2]; exact hb1.alloc hs1 _
            have hs2 := hb2.size
            have hSm : Sl x2 (some ⟨x1.heap.size, 0, none⟩) 1 1 1 (txV [m]) := by rw [← hx2]; exact sl_one
            have HO2 := Lib.hid hown2
            have HB2 := Lib.hid hb2
            have HSm := Lib.hid hSm
            have HX2 := Lib.hid hx2
            have Hbig2 : Hid (T.length + 1 ≤ maxLen ∧ (T.length + 1) * 16 ≤ 140737488355328) := Lib.hid ⟨by unfold maxLen; omega, by omega⟩
            clear hown1 hgrow1 hb1 hs1 hown2 hb2 hSm hx2 HO0 HB0 HSx Hbig hs0
            go_wp2_with (at_builtin; rw [HX2.out]; refine append_any _ rfl (.tmp 237) (.tmp 239) 22 rfl wr.heap.size 9 iS (.string ByteArray.empty) 16 Tryz.underlying22 hiS hzS hsS hbS rfl v1 T.length (txV T) rfl HO2.out (some ⟨x1.heap.size, 0, none⟩) 1 1 (txV [m]) rfl HSm.out (txV_one _) Hbig2.out.1 Hbig2.out.2 hs2 ?_)
            intro v3 x3 hown3 hgrow3
            have hb3 : Below wr.heap.size wr x3 := HB2.out.grown hgrow3 hs2 (fun q hq => (own_blk HO2.out q hq).1)
            obtain ⟨A3, c3, rfl, hS3⟩ := row_sl hown3
            rw [show txV T ++ [Value.string m] = txV (T ++ [m]) from txV_app T [m]] at hS3
            have hlen3 : (T ++ [m]).length = T.length + 1 := by simp
            have hev3 := Hev.out a (T ++ [m]) x3 A3 c3 (by rw [hlen3]; exact hS3) (by omega)
            rw [hlen3] at hev3
            have HEv3 := Lib.hid hev3
            have HB3 := Lib.hid hb3
            clear hown3 hgrow3 hb3 hS3 hev3 hs2 HB2 HO2 HSm HX2 Hbig2 hlen3
            go_wp2_with fail
            refine HEv3.out.mono ?_
            rintro e w9 ⟨B, E, rfl, hE, hB9⟩
            obtain ⟨hB, rfl⟩ := ev_whole hE HX.out (by rw [toL_len]; omega)
            have HOK : Hid (RP (.returned (.bool true)) w9) := Lib.hid (by rw [HRP.out]; exact ⟨rfl, (HBr.out.trans (HB3.out.mono HBr.out.size)).trans (hB9.mono (HBr.out.trans (HB3.out.mono HBr.out.size)).size)⟩)
            have Hsame : Hid (sp = false → B = true) := Lib.hid fun h => by rw [hB, ev_more HX.out (Hsp.out h), ← Hx.out]
            clear hE hB9 hB HEv3 HB3 Hsp
            cases sp with
            | true =>
              go_wp2_with fail
              exact HOK.out
            | false =>
              obtain rfl := Hsame.out rfl
              go_wp2_with (go_at_call 14; refine (num_any _ _).mono ?_; rintro e y ⟨rfl, rfl⟩)
              exact HOK.out
  case false.true.true =>
    go_wp2_with (go_at_call 14; refine (num_any _ _).mono ?_; rintro e y ⟨rfl, rfl⟩)
    go_loopw [24, 25, 26] (fun iv _ _ wr => ThR w5 (tru8 (parS a) (parS b) (parS c)) (want8 false true true) iv wr) (fun iv _ _ _ => 8 - (intOf iv).toNat)
    case atStart =>
      refine ⟨0, by omega, rfl, ?_, ?_, ?_⟩
      · exact Lib.hid ((Below.heap_alloc _ _ _ (by simp)).trans (heap_alloc_new _ _))
      · exact Lib.hid (by have h := heap_alloc_new (w5.alloc (.cells (txV (tru8 (parS a) (parS b) (parS c))).toArray 9)) (.cells ((want8 false true true).map Value.bool).toArray 4); rw [World.size_alloc] at h; exact h)
      · exact Lib.hid (((Below.refl _ w5).alloc (Nat.le_refl _) _).alloc (by simp) _)
    case round =>
      obtain ⟨k, hk, rfl, HA, HB, HL⟩ := hrel
      have hkr : (0 : Int) ≤ k := by omega
      by_cases hlt : k < 8
      · have hkI : (k : Int) < 8 := by omega
        obtain ⟨t, ht⟩ : ∃ t, (tru8 (parS a) (parS b) (parS c))[k]? = some t := ⟨_, List.getElem?_eq_getElem hlt⟩
        have hct : wr.cell? ⟨w5.heap.size, k, none⟩ = some (.string t) := by
          have h := (blk_cells HA.out).1 k
          rw [h]
          simp [txV, ht]
        have Ht := Lib.hid ht
        have HSr := Lib.hid (HS5.out.keep (Cells.of_below HL.out))
        have CE := Lib.hid (Hev.out t T wr A cp HSr.out hl)
        clear ht
        go_wp2_with fail
        refine CE.out.mono ?_
        rintro e wq ⟨B, E, rfl, hE, hBq⟩
        obtain ⟨hw8, rfl⟩ := HKEY.out k t B E Ht.out hE
        have HAq := Lib.hid ((hBq.block _ (lt_of_heap HA.out)).trans HA.out)
        have HBq := Lib.hid ((hBq.block _ (lt_of_heap HB.out)).trans HB.out)
        have HLq := Lib.hid (HL.out.trans (hBq.mono HL.out.size))
        have hcb : wq.cell? ⟨w5.heap.size + 1, k, none⟩ = some (.bool B) := by
          have h := (blk_cells HBq.out).1 k
          rw [h]
          simp [hw8]
        clear hE hw8 hBq CE HA HB HL hct Ht HSr
        go_wp2_with (go_at_call 14; refine (num_any _ _).mono ?_; rintro e y ⟨rfl, rfl⟩)
        exact ⟨⟨k + 1, by omega, by go_num, HAq, HBq, HLq⟩, by simp [intOf]; omega⟩
      · have hkI : ¬ (k : Int) < 8 := by omega
        obtain rfl : k = 8 := by omega
        clear hlt hk hkI hkr
        go_wp2_with fail
        have HBr := Lib.hid (HB5.out.trans (HL.out.mono HB5.out.size))
        have HSr := Lib.hid (HS5.out.keep (Cells.of_below HL.out))
        clear HA HB HL HKEY HS5 HB5 HOK
        go_loop [27, 28] (fun sv iv => SpR a m sv iv) (fun _ iv => 102 - (intOf iv).toNat)
        case atStart => exact ⟨0, false, rfl, rfl, by omega, Lib.hid fun _ j hj => by omega⟩
        case round =>
          obtain ⟨k, sp, rfl, rfl, hk, Hno⟩ := hrel
          have hkr : (0 : Int) ≤ k := by omega
          have hw : wrap64 ((k : Int) + (m.size : Int)) = (k : Int) + m.size := by unfold wrap64; omega
          by_cases hlt : k + m.size ≤ a.size
          · have hkI : (k : Int) + m.size ≤ a.size := by omega
            cases sp with
            | true =>
              go_wp2_with fail
              exact ⟨⟨k + 1, true, rfl, by go_num, by omega, Lib.hid fun h => by cases h⟩, by simp [intOf]; omega⟩
            | false =>
              have hseq := str_eq (a.extract k (k + m.size)) m
              by_cases he : a.extract k (k + m.size) = m
              · rw [decide_eq_true he] at hseq
                clear he
                go_wp2_with fail
                exact ⟨⟨k + 1, true, rfl, by go_num, by omega, Lib.hid fun h => by cases h⟩, by simp [intOf]; omega⟩
              · rw [decide_eq_false he] at hseq
                have Hno2 : Hid (false = false → ∀ j, j < k + 1 → a.extract j (j + m.size) ≠ m) := Lib.hid fun _ j hj => by
                  rcases Nat.lt_or_ge j k with h2 | h2
                  · exact Hno.out rfl j h2
                  · obtain rfl : j = k := by omega
                    exact he
                clear he
                go_wp2_with fail
                exact ⟨⟨k + 1, false, rfl, by go_num, by omega, Hno2⟩, by simp [intOf]; omega⟩
          · have hkI : ¬ (k : Int) + m.size ≤ a.size := by omega
            have Hsp : Hid (sp = false → ¬ (toL m <:+: toL a)) := Lib.hid fun h => sp_end (Hno.out h) (by omega)
            clear Hno
            obtain ⟨iS, hiS, hzS, hsS, hbS⟩ := info_parts infoStr1
            obtain ⟨x0, hx0⟩ : ∃ x, wr.alloc (.cells #[] 9) = x := ⟨_, rfl⟩
            have ho0 : x0.ownsRow wr.heap.size 9 1 (.slice (some ⟨wr.heap.size, 0, none⟩) 0 0) 0 [] := by rw [← hx0]; exact own_empty (Nat.le_refl _)
            have hb0 : Below wr.heap.size wr x0 := by rw [← hx0]; exact (Below.refl _ wr).alloc (Nat.le_refl _) _
            have hSx := HSr.out.keep (Cells.of_below hb0)
            have hs0 : wr.heap.size ≤ x0.heap.size := hb0.size
            have HO0 := Lib.hid ho0
            have HB0 := Lib.hid hb0
            have HSx := Lib.hid hSx
            have HX0 := Lib.hid hx0
            have Hbig : Hid (0 + T.length ≤ maxLen ∧ (0 + T.length) * 16 ≤ 140737488355328) := Lib.hid ⟨by unfold maxLen; omega, by omega⟩
            clear hx0 ho0 hb0 hSx
            go_wp2_with (at_builtin; rw [HX0.out]; refine append_any _ rfl (.tmp 235) (.tmp 236) 22 rfl wr.heap.size 9 iS (.string ByteArray.empty) 16 Tryz.underlying22 hiS hzS hsS hbS rfl (.slice (some ⟨wr.heap.size, 0, none⟩) 0 0) 0 [] rfl HO0.out A T.length cp (txV T) rfl HSx.out (txV_one _) Hbig.out.1 Hbig.out.2 hs0 ?_)
            intro v1 x1 hown1 hgrow1
            have hb1 : Below wr.heap.size wr x1 := HB0.out.grown hgrow1 hs0 (fun q hq => (own_blk HO0.out q hq).1)
            have hs1 := hb1.size
            obtain ⟨x2, hx2⟩ : ∃ x, x1.alloc (.cells #[.string m] 9) = x := ⟨_, rfl⟩
            have hown2 : x2.ownsRow wr.heap.size 9 1 v1 T.length (txV T) := by rw [← hx2]; exact hown1.alloc _
            have hb2 : Below wr.heap.size wr x2 := by rw [← hx2]; exact hb1.alloc hs1 _
            have hs2 := hb2.size
            have hSm : Sl x2 (some ⟨x1.heap.size, 0, none⟩) 1 1 1 (txV [m]) := by rw [← hx2]; exact sl_one
            have HO2 := Lib.hid hown2
            have HB2 := Lib.hid hb2
            have HSm := Lib.hid hSm
            have HX2 := Lib.hid hx2
            have Hbig2 : Hid (T.length + 1 ≤ maxLen ∧ (T.length + 1) * 16 ≤ 140737488355328) := Lib.hid ⟨by unfold maxLen; omega, by omega⟩
            clear hown1 hgrow1 hb1 hs1 hown2 hb2 hSm hx2 HO0 HB0 HSx Hbig hs0
            go_wp2_with (at_builtin; rw [HX2.out]; refine append_any _ rfl (.tmp 237) (.tmp 239) 22 rfl wr.heap.size 9 iS (.string ByteArray.empty) 16 Tryz.underlying22 hiS hzS hsS hbS rfl v1 T.length (txV T) rfl HO2.out (some ⟨x1.heap.size, 0, none⟩) 1 1 (txV [m]) rfl HSm.out (txV_one _) Hbig2.out.1 Hbig2.out.2 hs2 ?_)
            intro v3 x3 hown3 hgrow3
            have hb3 : Below wr.heap.size wr x3 := HB2.out.grown hgrow3 hs2 (fun q hq => (own_blk HO2.out q hq).1)
            obtain ⟨A3, c3, rfl, hS3⟩ := row_sl hown3
            rw [show txV T ++ [Value.string m] = txV (T ++ [m]) from txV_app T [m]] at hS3
            have hlen3 : (T ++ [m]).length = T.length + 1 := by simp
            have hev3 := Hev.out a (T ++ [m]) x3 A3 c3 (by rw [hlen3]; exact hS3) (by omega)
            rw [hlen3] at hev3
            have HEv3 := Lib.hid hev3
            have HB3 := Lib.hid hb3
            clear hown3 hgrow3 hb3 hS3 hev3 hs2 HB2 HO2 HSm HX2 Hbig2 hlen3
            go_wp2_with fail
            refine HEv3.out.mono ?_
            rintro e w9 ⟨B, E, rfl, hE, hB9⟩
            obtain ⟨hB, rfl⟩ := ev_whole hE HX.out (by rw [toL_len]; omega)
            have HOK : Hid (RP (.returned (.bool true)) w9) := Lib.hid (by rw [HRP.out]; exact ⟨rfl, (HBr.out.trans (HB3.out.mono HBr.out.size)).trans (hB9.mono (HBr.out.trans (HB3.out.mono HBr.out.size)).size)⟩)
            have Hsame : Hid (sp = false → B = false) := Lib.hid fun h => by rw [hB, ev_more HX.out (Hsp.out h), ← Hx.out]
            clear hE hB9 hB HEv3 HB3 Hsp
            cases sp with
            | true =>
              go_wp2_with fail
              exact HOK.out
            | false =>
              obtain rfl := Hsame.out rfl
              go_wp2_with (go_at_call 14; refine (num_any _ _).mono ?_; rintro e y ⟨rfl, rfl⟩)
              exact HOK.out
  case false.true.false =>
    go_wp2_with (go_at_call 14; refine (num_any _ _).mono ?_; rintro e y ⟨rfl, rfl⟩)
    go_loopw [24, 25, 26] (fun iv _ _ wr => ThR w5 (tru8 (parS a) (parS b) (parS c)) (want8 false true false) iv wr) (fun iv _ _ _ => 8 - (intOf iv).toNat)
    case atStart =>
      refine ⟨0, by omega, rfl, ?_, ?_, ?_⟩
      · exact Lib.hid ((Below.heap_alloc _ _ _ (by simp)).trans (heap_alloc_new _ _))
      · exact Lib.hid (by have h := heap_alloc_new (w5.alloc (.cells (txV (tru8 (parS a) (parS b) (parS c))).toArray 9)) (.cells ((want8 false true false).map Value.bool).toArray 4); rw [World.size_alloc] at h; exact h)
      · exact Lib.hid (((Below.refl _ w5).alloc (Nat.le_refl _) _).alloc (by simp) _)
    case round =>
      obtain ⟨k, hk, rfl, HA, HB, HL⟩ := hrel
      have hkr : (0 : Int) ≤ k := by omega
      by_cases hlt : k < 8
      · have hkI : (k : Int) < 8 := by omega
        obtain ⟨t, ht⟩ : ∃ t, (tru8 (parS a) (parS b) (parS c))[k]? = some t := ⟨_, List.getElem?_eq_getElem hlt⟩
        have hct : wr.cell? ⟨w5.heap.size, k, none⟩ = some (.string t) := by
          have h := (blk_cells HA.out).1 k
          rw [h]
          simp [txV, ht]
        have Ht := Lib.hid ht
        have HSr := Lib.hid (HS5.out.keep (Cells.of_below HL.out))
        have CE := Lib.hid (Hev.out t T wr A cp HSr.out hl)
        clear ht
        go_wp2_with fail
        refine CE.out.mono ?_
        rintro e wq ⟨B, E, rfl, hE, hBq⟩
        obtain ⟨hw8, rfl⟩ := HKEY.out k t B E Ht.out hE
        have HAq := Lib.hid ((hBq.block _ (lt_of_heap HA.out)).trans HA.out)
        have HBq := Lib.hid ((hBq.block _ (lt_of_heap HB.out)).trans HB.out)
        have HLq := Lib.hid (HL.out.trans (hBq.mono HL.out.size))
        have hcb : wq.cell? ⟨w5.heap.size + 1, k, none⟩ = some (.bool B) := by
          have h := (blk_cells HBq.out).1 k
          rw [h]
          simp [hw8]
        clear hE hw8 hBq CE HA HB HL hct Ht HSr
        go_wp2_with (go_at_call 14; refine (num_any _ _).mono ?_; rintro e y ⟨rfl, rfl⟩)
        exact ⟨⟨k + 1, by omega, by go_num, HAq, HBq, HLq⟩, by simp [intOf]; omega⟩
      · have hkI : ¬ (k : Int) < 8 := by omega
        obtain rfl : k = 8 := by omega
        clear hlt hk hkI hkr
        go_wp2_with fail
        have HBr := Lib.hid (HB5.out.trans (HL.out.mono HB5.out.size))
        have HSr := Lib.hid (HS5.out.keep (Cells.of_below HL.out))
        clear HA HB HL HKEY HS5 HB5 HOK
        go_loop [27, 28] (fun sv iv => SpR a m sv iv) (fun _ iv => 102 - (intOf iv).toNat)
        case atStart => exact ⟨0, false, rfl, rfl, by omega, Lib.hid fun _ j hj => by omega⟩
        case round =>
          obtain ⟨k, sp, rfl, rfl, hk, Hno⟩ := hrel
          have hkr : (0 : Int) ≤ k := by omega
          have hw : wrap64 ((k : Int) + (m.size : Int)) = (k : Int) + m.size := by unfold wrap64; omega
          by_cases hlt : k + m.size ≤ a.size
          · have hkI : (k : Int) + m.size ≤ a.size := by omega
            cases sp with
            | true =>
              go_wp2_with fail
              exact ⟨⟨k + 1, true, rfl, by go_num, by omega, Lib.hid fun h => by cases h⟩, by simp [intOf]; omega⟩
            | false =>
              have hseq := str_eq (a.extract k (k + m.size)) m
              by_cases he : a.extract k (k + m.size) = m
              · rw [decide_eq_true he] at hseq
                clear he
                go_wp2_with fail
                exact ⟨⟨k + 1, true, rfl, by go_num, by omega, Lib.hid fun h => by cases h⟩, by simp [intOf]; omega⟩
              · rw [decide_eq_false he] at hseq
                have Hno2 : Hid (false = false → ∀ j, j < k + 1 → a.extract j (j + m.size) ≠ m) := Lib.hid fun _ j hj => by
                  rcases Nat.lt_or_ge j k with h2 | h2
                  · exact Hno.out rfl j h2
                  · obtain rfl : j = k := by omega
                    exact he
                clear he
                go_wp2_with fail
                exact ⟨⟨k + 1, false, rfl, by go_num, by omega, Hno2⟩, by simp [intOf]; omega⟩
          · have hkI : ¬ (k : Int) + m.size ≤ a.size := by omega
            have Hsp : Hid (sp = false → ¬ (toL m <:+: toL a)) := Lib.hid fun h => sp_end (Hno.out h) (by omega)
            clear Hno
            obtain ⟨iS, hiS, hzS, hsS, hbS⟩ := info_parts infoStr1
            obtain ⟨x0, hx0⟩ : ∃ x, wr.alloc (.cells #[] 9) = x := ⟨_, rfl⟩
            have ho0 : x0.ownsRow wr.heap.size 9 1 (.slice (some ⟨wr.heap.size, 0, none⟩) 0 0) 0 [] := by rw [← hx0]; exact own_empty (Nat.le_refl _)
            have hb0 : Below wr.heap.size wr x0 := by rw [← hx0]; exact (Below.refl _ wr).alloc (Nat.le_refl _) _
            have hSx := HSr.out.keep (Cells.of_below hb0)
            have hs0 : wr.heap.size ≤ x0.heap.size := hb0.size
            have HO0 := Lib.hid ho0
            have HB0 := Lib.hid hb0
            have HSx := Lib.hid hSx
            have HX0 := Lib.hid hx0
            have Hbig : Hid (0 + T.length ≤ maxLen ∧ (0 + T.length) * 16 ≤ 140737488355328) := Lib.hid ⟨by unfold maxLen; omega, by omega⟩
            clear hx0 ho0 hb0 hSx
            go_wp2_with (at_builtin; rw [HX0.out]; refine append_any _ rfl (.tmp 235) (.tmp 236) 22 rfl wr.heap.size 9 iS (.string ByteArray.empty) 16 Tryz.underlying22 hiS hzS hsS hbS rfl (.slice (some ⟨wr.heap.size, 0, none⟩) 0 0) 0 [] rfl HO0.out A T.length cp (txV T) rfl HSx.out (txV_one _) Hbig.out.1 Hbig.out.2 hs0 ?_)
            intro v1 x1 hown1 hgrow1
            have hb1 : Below wr.heap.size wr x1 := HB0.out.grown hgrow1 hs0 (fun q hq => (own_blk HO0.out q hq).1)
            have hs1 := hb1.size
            obtain ⟨x2, hx2⟩ : ∃ x, x1.alloc (.cells #[.string m] 9) = x := ⟨_, rfl⟩
            have hown2 : x2.ownsRow wr.heap.size 9 1 v1 T.length (txV T) := by rw [← hx2]; exact hown1.alloc _
            have hb2 : Below wr.heap.size wr x2 := by rw [← hx2]; exact hb1.alloc hs1 _
            have hs2 := hb2.size
            have hSm : Sl x2 (some ⟨x1.heap.size, 0, none⟩) 1 1 1 (txV [m]) := by rw [← hx2]; exact sl_one
            have HO2 := Lib.hid hown2
            have HB2 := Lib.hid hb2
            have HSm := Lib.hid hSm
            have HX2 := Lib.hid hx2
            have Hbig2 : Hid (T.length + 1 ≤ maxLen ∧ (T.length + 1) * 16 ≤ 140737488355328) := Lib.hid ⟨by unfold maxLen; omega, by omega⟩
            clear hown1 hgrow1 hb1 hs1 hown2 hb2 hSm hx2 HO0 HB0 HSx Hbig hs0
            go_wp2_with (at_builtin; rw [HX2.out]; refine append_any _ rfl (.tmp 237) (.tmp 239) 22 rfl wr.heap.size 9 iS (.string ByteArray.empty) 16 Tryz.underlying22 hiS hzS hsS hbS rfl v1 T.length (txV T) rfl HO2.out (some ⟨x1.heap.size, 0, none⟩) 1 1 (txV [m]) rfl HSm.out (txV_one _) Hbig2.out.1 Hbig2.out.2 hs2 ?_)
            intro v3 x3 hown3 hgrow3
            have hb3 : Below wr.heap.size wr x3 := HB2.out.grown hgrow3 hs2 (fun q hq => (own_blk HO2.out q hq).1)
            obtain ⟨A3, c3, rfl, hS3⟩ := row_sl hown3
            rw [show txV T ++ [Value.string m] = txV (T ++ [m]) from txV_app T [m]] at hS3
            have hlen3 : (T ++ [m]).length = T.length + 1 := by simp
            have hev3 := Hev.out a (T ++ [m]) x3 A3 c3 (by rw [hlen3]; exact hS3) (by omega)
            rw [hlen3] at hev3
            have HEv3 := Lib.hid hev3
            have HB3 := Lib.hid hb3
            clear hown3 hgrow3 hb3 hS3 hev3 hs2 HB2 HO2 HSm HX2 Hbig2 hlen3
            go_wp2_with fail
            refine HEv3.out.mono ?_
            rintro e w9 ⟨B, E, rfl, hE, hB9⟩
            obtain ⟨hB, rfl⟩ := ev_whole hE HX.out (by rw [toL_len]; omega)
            have HOK : Hid (RP (.returned (.bool true)) w9) := Lib.hid (by rw [HRP.out]; exact ⟨rfl, (HBr.out.trans (HB3.out.mono HBr.out.size)).trans (hB9.mono (HBr.out.trans (HB3.out.mono HBr.out.size)).size)⟩)
            have Hsame : Hid (sp = false → B = false) := Lib.hid fun h => by rw [hB, ev_more HX.out (Hsp.out h), ← Hx.out]
            clear hE hB9 hB HEv3 HB3 Hsp
            cases sp with
            | true =>
              go_wp2_with fail
              exact HOK.out
            | false =>
              obtain rfl := Hsame.out rfl
              go_wp2_with (go_at_call 14; refine (num_any _ _).mono ?_; rintro e y ⟨rfl, rfl⟩)
              exact HOK.out
  case false.false.true =>
    go_wp2_with (go_at_call 14; refine (num_any _ _).mono ?_; rintro e y ⟨rfl, rfl⟩)
    go_loopw [24, 25, 26] (fun iv _ _ wr => ThR w5 (tru8 (parS a) (parS b) (parS c)) (want8 false false true) iv wr) (fun iv _ _ _ => 8 - (intOf iv).toNat)
    case atStart =>
      refine ⟨0, by omega, rfl, ?_, ?_, ?_⟩
      · exact Lib.hid ((Below.heap_alloc _ _ _ (by simp)).trans (heap_alloc_new _ _))
      · exact Lib.hid (by have h := heap_alloc_new (w5.alloc (.cells (txV (tru8 (parS a) (parS b) (parS c))).toArray 9)) (.cells ((want8 false false true).map Value.bool).toArray 4); rw [World.size_alloc] at h; exact h)
      · exact Lib.hid (((Below.refl _ w5).alloc (Nat.le_refl _) _).alloc (by simp) _)
    case round =>
      obtain ⟨k, hk, rfl, HA, HB, HL⟩ := hrel
      have hkr : (0 : Int) ≤ k := by omega
      by_cases hlt : k < 8
      · have hkI : (k : Int) < 8 := by omega
        obtain ⟨t, ht⟩ : ∃ t, (tru8 (parS a) (parS b) (parS c))[k]? = some t := ⟨_, List.getElem?_eq_getElem hlt⟩
        have hct : wr.cell? ⟨w5.heap.size, k, none⟩ = some (.string t) := by
          have h := (blk_cells HA.out).1 k
          rw [h]
          simp [txV, ht]
        have Ht := Lib.hid ht
        have HSr := Lib.hid (HS5.out.keep (Cells.of_below HL.out))
        have CE := Lib.hid (Hev.out t T wr A cp HSr.out hl)
        clear ht
        go_wp2_with fail
        refine CE.out.mono ?_
        rintro e wq ⟨B, E, rfl, hE, hBq⟩
        obtain ⟨hw8, rfl⟩ := HKEY.out k t B E Ht.out hE
        have HAq := Lib.hid ((hBq.block _ (lt_of_heap HA.out)).trans HA.out)
        have HBq := Lib.hid ((hBq.block _ (lt_of_heap HB.out)).trans HB.out)
        have HLq := Lib.hid (HL.out.trans (hBq.mono HL.out.size))
        have hcb : wq.cell? ⟨w5.heap.size + 1, k, none⟩ = some (.bool B) := by
          have h := (blk_cells HBq.out).1 k
          rw [h]
          simp [hw8]
        clear hE hw8 hBq CE HA HB HL hct Ht HSr
        go_wp2_with (go_at_call 14; refine (num_any _ _).mono ?_; rintro e y ⟨rfl, rfl⟩)
        exact ⟨⟨k + 1, by omega, by go_num, HAq, HBq, HLq⟩, by simp [intOf]; omega⟩
      · have hkI : ¬ (k : Int) < 8 := by omega
        obtain rfl : k = 8 := by omega
        clear hlt hk hkI hkr
        go_wp2_with fail
        have HBr := Lib.hid (HB5.out.trans (HL.out.mono HB5.out.size))
        have HSr := Lib.hid (HS5.out.keep (Cells.of_below HL.out))
        clear HA HB HL HKEY HS5 HB5 HOK
        go_loop [27, 28] (fun sv iv => SpR a m sv iv) (fun _ iv => 102 - (intOf iv).toNat)
        case atStart => exact ⟨0, false, rfl, rfl, by omega, Lib.hid fun _ j hj => by omega⟩
        case round =>
          obtain ⟨k, sp, rfl, rfl, hk, Hno⟩ := hrel
          have hkr : (0 : Int) ≤ k := by omega
          have hw : wrap64 ((k : Int) + (m.size : Int)) = (k : Int) + m.size := by unfold wrap64; omega
          by_cases hlt : k + m.size ≤ a.size
          · have hkI : (k : Int) + m.size ≤ a.size := by omega
            cases sp with
            | true =>
              go_wp2_with fail
              exact ⟨⟨k + 1, true, rfl, by go_num, by omega, Lib.hid fun h => by cases h⟩, by simp [intOf]; omega⟩
            | false =>
              have hseq := str_eq (a.extract k (k + m.size)) m
              by_cases he : a.extract k (k + m.size) = m
              · rw [decide_eq_true he] at hseq
                clear he
                go_wp2_with fail
                exact ⟨⟨k + 1, true, rfl, by go_num, by omega, Lib.hid fun h => by cases h⟩, by simp [intOf]; omega⟩
              · rw [decide_eq_false he] at hseq
                have Hno2 : Hid (false = false → ∀ j, j < k + 1 → a.extract j (j + m.size) ≠ m) := Lib.hid fun _ j hj => by
                  rcases Nat.lt_or_ge j k with h2 | h2
                  · exact Hno.out rfl j h2
                  · obtain rfl : j = k := by omega
                    exact he
                clear he
                go_wp2_with fail
                exact ⟨⟨k + 1, false, rfl, by go_num, by omega, Hno2⟩, by simp [intOf]; omega⟩
          · have hkI : ¬ (k : Int) + m.size ≤ a.size := by omega
            have Hsp : Hid (sp = false → ¬ (toL m <:+: toL a)) := Lib.hid fun h => sp_end (Hno.out h) (by omega)
            clear Hno
            obtain ⟨iS, hiS, hzS, hsS, hbS⟩ := info_parts infoStr1
            obtain ⟨x0, hx0⟩ : ∃ x, wr.alloc (.cells #[] 9) = x := ⟨_, rfl⟩
            have ho0 : x0.ownsRow wr.heap.size 9 1 (.slice (some ⟨wr.heap.size, 0, none⟩) 0 0) 0 [] := by rw [← hx0]; exact own_empty (Nat.le_refl _)
            have hb0 : Below wr.heap.size wr x0 := by rw [← hx0]; exact (Below.refl _ wr).alloc (Nat.le_refl _) _
            have hSx := HSr.out.keep (Cells.of_below hb0)
            have hs0 : wr.heap.size ≤ x0.heap.size := hb0.size
            have HO0 := Lib.hid ho0
            have HB0 := Lib.hid hb0
            have HSx := Lib.hid hSx
            have HX0 := Lib.hid hx0
            have Hbig : Hid (0 + T.length ≤ maxLen ∧ (0 + T.length) * 16 ≤ 140737488355328) := Lib.hid ⟨by unfold maxLen; omega, by omega⟩
            clear hx0 ho0 hb0 hSx
            go_wp2_with (at_builtin; rw [HX0.out]; refine append_any _ rfl (.tmp 235) (.tmp 236) 22 rfl wr.heap.size 9 iS (.string ByteArray.empty) 16 Tryz.underlying22 hiS hzS hsS hbS rfl (.slice (some ⟨wr.heap.size, 0, none⟩) 0 0) 0 [] rfl HO0.out A T.length cp (txV T) rfl HSx.out (txV_one _) Hbig.out.1 Hbig.out.2 hs0 ?_)
            intro v1 x1 hown1 hgrow1
            have hb1 : Below wr.heap.size wr x1 := HB0.out.grown hgrow1 hs0 (fun q hq => (own_blk HO0.out q hq).1)
            have hs1 := hb1.size
            obtain ⟨x2, hx2⟩ : ∃ x, x1.alloc (.cells #[.string m] 9) = x := ⟨_, rfl⟩
            have hown2 : x2.ownsRow wr.heap.size 9 1 v1 T.length (txV T) := by rw [← hx2]; exact hown1.alloc _
            have hb2 : Below wr.heap.size wr x2 := by rw [← hx2]; exact hb1.alloc hs1 _
            have hs2 := hb2.size
            have hSm : Sl x2 (some ⟨x1.heap.size, 0, none⟩) 1 1 1 (txV [m]) := by rw [← hx2]; exact sl_one
            have HO2 := Lib.hid hown2
            have HB2 := Lib.hid hb2
            have HSm := Lib.hid hSm
            have HX2 := Lib.hid hx2
            have Hbig2 : Hid (T.length + 1 ≤ maxLen ∧ (T.length + 1) * 16 ≤ 140737488355328) := Lib.hid ⟨by unfold maxLen; omega, by omega⟩
            clear hown1 hgrow1 hb1 hs1 hown2 hb2 hSm hx2 HO0 HB0 HSx Hbig hs0
            go_wp2_with (at_builtin; rw [HX2.out]; refine append_any _ rfl (.tmp 237) (.tmp 239) 22 rfl wr.heap.size 9 iS (.string ByteArray.empty) 16 Tryz.underlying22 hiS hzS hsS hbS rfl v1 T.length (txV T) rfl HO2.out (some ⟨x1.heap.size, 0, none⟩) 1 1 (txV [m]) rfl HSm.out (txV_one _) Hbig2.out.1 Hbig2.out.2 hs2 ?_)
            intro v3 x3 hown3 hgrow3
            have hb3 : Below wr.heap.size wr x3 := HB2.out.grown hgrow3 hs2 (fun q hq => (own_blk HO2.out q hq).1)
            obtain ⟨A3, c3, rfl, hS3⟩ := row_sl hown3
            rw [show txV T ++ [Value.string m] = txV (T ++ [m]) from txV_app T [m]] at hS3
            have hlen3 : (T ++ [m]).length = T.length + 1 := by simp
            have hev3 := Hev.out a (T ++ [m]) x3 A3 c3 (by rw [hlen3]; exact hS3) (by omega)
            rw [hlen3] at hev3
            have HEv3 := Lib.hid hev3
            have HB3 := Lib.hid hb3
            clear hown3 hgrow3 hb3 hS3 hev3 hs2 HB2 HO2 HSm HX2 Hbig2 hlen3
            go_wp2_with fail
            refine HEv3.out.mono ?_
            rintro e w9 ⟨B, E, rfl, hE, hB9⟩
            obtain ⟨hB, rfl⟩ := ev_whole hE HX.out (by rw [toL_len]; omega)
            have HOK : Hid (RP (.returned (.bool true)) w9) := Lib.hid (by rw [HRP.out]; exact ⟨rfl, (HBr.out.trans (HB3.out.mono HBr.out.size)).trans (hB9.mono (HBr.out.trans (HB3.out.mono HBr.out.size)).size)⟩)
            have Hsame : Hid (sp = false → B = false) := Lib.hid fun h => by rw [hB, ev_more HX.out (Hsp.out h), ← Hx.out]
            clear hE hB9 hB HEv3 HB3 Hsp
            cases sp with
            | true =>
              go_wp2_with fail
              exact HOK.out
            | false =>
              obtain rfl := Hsame.out rfl
              go_wp2_with (go_at_call 14; refine (num_any _ _).mono ?_; rintro e y ⟨rfl, rfl⟩)
              exact HOK.out
  case false.false.false =>
    go_wp2_with (go_at_call 14; refine (num_any _ _).mono ?_; rintro e y ⟨rfl, rfl⟩)
    go_loopw [24, 25, 26] (fun iv _ _ wr => ThR w5 (tru8 (parS a) (parS b) (parS c)) (want8 false false false) iv wr) (fun iv _ _ _ => 8 - (intOf iv).toNat)
    case atStart =>
      refine ⟨0, by omega, rfl, ?_, ?_, ?_⟩
      · exact Lib.hid ((Below.heap_alloc _ _ _ (by simp)).trans (heap_alloc_new _ _))
      · exact Lib.hid (by have h := heap_alloc_new (w5.alloc (.cells (txV (tru8 (parS a) (parS b) (parS c))).toArray 9)) (.cells ((want8 false false false).map Value.bool).toArray 4); rw [World.size_alloc] at h; exact h)
      · exact Lib.hid (((Below.refl _ w5).alloc (Nat.le_refl _) _).alloc (by simp) _)
    case round =>
      obtain ⟨k, hk, rfl, HA, HB, HL⟩ := hrel
      have hkr : (0 : Int) ≤ k := by omega
      by_cases hlt : k < 8
      · have hkI : (k : Int) < 8 := by omega
        obtain ⟨t, ht⟩ : ∃ t, (tru8 (parS a) (parS b) (parS c))[k]? = some t := ⟨_, List.getElem?_eq_getElem hlt⟩
        have hct : wr.cell? ⟨w5.heap.size, k, none⟩ = some (.string t) := by
          have h := (blk_cells HA.out).1 k
          rw [h]
          simp [txV, ht]
        have Ht := Lib.hid ht
        have HSr := Lib.hid (HS5.out.keep (Cells.of_below HL.out))
        have CE := Lib.hid (Hev.out t T wr A cp HSr.out hl)
        clear ht
        go_wp2_with fail
        refine CE.out.mono ?_
        rintro e wq ⟨B, E, rfl, hE, hBq⟩
        obtain ⟨hw8, rfl⟩ := HKEY.out k t B E Ht.out hE
        have HAq := Lib.hid ((hBq.block _ (lt_of_heap HA.out)).trans HA.out)
        have HBq := Lib.hid ((hBq.block _ (lt_of_heap HB.out)).trans HB.out)
        have HLq := Lib.hid (HL.out.trans (hBq.mono HL.out.size))
        have hcb : wq.cell? ⟨w5.heap.size + 1, k, none⟩ = some (.bool B) := by
          have h := (blk_cells HBq.out).1 k
          rw [h]
          simp [hw8]
        clear hE hw8 hBq CE HA HB HL hct Ht HSr
        go_wp2_with (go_at_call 14; refine (num_any _ _).mono ?_; rintro e y ⟨rfl, rfl⟩)
        exact ⟨⟨k + 1, by omega, by go_num, HAq, HBq, HLq⟩, by simp [intOf]; omega⟩
      · have hkI : ¬ (k : Int) < 8 := by omega
        obtain rfl : k = 8 := by omega
        clear hlt hk hkI hkr
        go_wp2_with fail
        have HBr := Lib.hid (HB5.out.trans (HL.out.mono HB5.out.size))
        have HSr := Lib.hid (HS5.out.keep (Cells.of_below HL.out))
        clear HA HB HL HKEY HS5 HB5 HOK
        go_loop [27, 28] (fun sv iv => SpR a m sv iv) (fun _ iv => 102 - (intOf iv).toNat)
        case atStart => exact ⟨0, false, rfl, rfl, by omega, Lib.hid fun _ j hj => by omega⟩
        case round =>
          obtain ⟨k, sp, rfl, rfl, hk, Hno⟩ := hrel
          have hkr : (0 : Int) ≤ k := by omega
          have hw : wrap64 ((k : Int) + (m.size : Int)) = (k : Int) + m.size := by unfold wrap64; omega
          by_cases hlt : k + m.size ≤ a.size
          · have hkI : (k : Int) + m.size ≤ a.size := by omega
            cases sp with
            | true =>
              go_wp2_with fail
              exact ⟨⟨k + 1, true, rfl, by go_num, by omega, Lib.hid fun h => by cases h⟩, by simp [intOf]; omega⟩
            | false =>
              have hseq := str_eq (a.extract k (k + m.size)) m
              by_cases he : a.extract k (k + m.size) = m
              · rw [decide_eq_true he] at hseq
                clear he
                go_wp2_with fail
                exact ⟨⟨k + 1, true, rfl, by go_num, by omega, Lib.hid fun h => by cases h⟩, by simp [intOf]; omega⟩
              · rw [decide_eq_false he] at hseq
                have Hno2 : Hid (false = false → ∀ j, j < k + 1 → a.extract j (j + m.size) ≠ m) := Lib.hid fun _ j hj => by
                  rcases Nat.lt_or_ge j k with h2 | h2
                  · exact Hno.out rfl j h2
                  · obtain rfl : j = k := by omega
                    exact he
                clear he
                go_wp2_with fail
                exact ⟨⟨k + 1, false, rfl, by go_num, by omega, Hno2⟩, by simp [intOf]; omega⟩
          · have hkI : ¬ (k : Int) + m.size ≤ a.size := by omega
            have Hsp : Hid (sp = false → ¬ (toL m <:+: toL a)) := Lib.hid fun h => sp_end (Hno.out h) (by omega)
            clear Hno
            obtain ⟨iS, hiS, hzS, hsS, hbS⟩ := info_parts infoStr1
            obtain ⟨x0, hx0⟩ : ∃ x, wr.alloc (.cells #[] 9) = x := ⟨_, rfl⟩
            have ho0 : x0.ownsRow wr.heap.size 9 1 (.slice (some ⟨wr.heap.size, 0, none⟩) 0 0) 0 [] := by rw [← hx0]; exact own_empty (Nat.le_refl _)
            have hb0 : Below wr.heap.size wr x0 := by rw [← hx0]; exact (Below.refl _ wr).alloc (Nat.le_refl _) _
            have hSx := HSr.out.keep (Cells.of_below hb0)
            have hs0 : wr.heap.size ≤ x0.heap.size := hb0.size
            have HO0 := Lib.hid ho0
            have HB0 := Lib.hid hb0
            have HSx := Lib.hid hSx
            have HX0 := Lib.hid hx0
            have Hbig : Hid (0 + T.length ≤ maxLen ∧ (0 + T.length) * 16 ≤ 140737488355328) := Lib.hid ⟨by unfold maxLen; omega, by omega⟩
            clear hx0 ho0 hb0 hSx
            go_wp2_with (at_builtin; rw [HX0.out]; refine append_any _ rfl (.tmp 235) (.tmp 236) 22 rfl wr.heap.size 9 iS (.string ByteArray.empty) 16 Tryz.underlying22 hiS hzS hsS hbS rfl (.slice (some ⟨wr.heap.size, 0, none⟩) 0 0) 0 [] rfl HO0.out A T.length cp (txV T) rfl HSx.out (txV_one _) Hbig.out.1 Hbig.out.2 hs0 ?_)
            intro v1 x1 hown1 hgrow1
            have hb1 : Below wr.heap.size wr x1 := HB0.out.grown hgrow1 hs0 (fun q hq => (own_blk HO0.out q hq).1)
            have hs1 := hb1.size
            obtain ⟨x2, hx2⟩ : ∃ x, x1.alloc (.cells #[.string m] 9) = x := ⟨_, rfl⟩
            have hown2 : x2.ownsRow wr.heap.size 9 1 v1 T.length (txV T) := by rw [← hx2]; exact hown1.alloc _
            have hb2 : Below wr.heap.size wr x2 := by rw [← hx2]; exact hb1.alloc hs1 _
            have hs2 := hb2.size
            have hSm : Sl x2 (some ⟨x1.heap.size, 0, none⟩) 1 1 1 (txV [m]) := by rw [← hx2]; exact sl_one
            have HO2 := Lib.hid hown2
            have HB2 := Lib.hid hb2
            have HSm := Lib.hid hSm
            have HX2 := Lib.hid hx2
            have Hbig2 : Hid (T.length + 1 ≤ maxLen ∧ (T.length + 1) * 16 ≤ 140737488355328) := Lib.hid ⟨by unfold maxLen; omega, by omega⟩
            clear hown1 hgrow1 hb1 hs1 hown2 hb2 hSm hx2 HO0 HB0 HSx Hbig hs0
            go_wp2_with (at_builtin; rw [HX2.out]; refine append_any _ rfl (.tmp 237) (.tmp 239) 22 rfl wr.heap.size 9 iS (.string ByteArray.empty) 16 Tryz.underlying22 hiS hzS hsS hbS rfl v1 T.length (txV T) rfl HO2.out (some ⟨x1.heap.size, 0, none⟩) 1 1 (txV [m]) rfl HSm.out (txV_one _) Hbig2.out.1 Hbig2.out.2 hs2 ?_)
            intro v3 x3 hown3 hgrow3
            have hb3 : Below wr.heap.size wr x3 := HB2.out.grown hgrow3 hs2 (fun q hq => (own_blk HO2.out q hq).1)
            obtain ⟨A3, c3, rfl, hS3⟩ := row_sl hown3
            rw [show txV T ++ [Value.string m] = txV (T ++ [m]) from txV_app T [m]] at hS3
            have hlen3 : (T ++ [m]).length = T.length + 1 := by simp
            have hev3 := Hev.out a (T ++ [m]) x3 A3 c3 (by rw [hlen3]; exact hS3) (by omega)
            rw [hlen3] at hev3
            have HEv3 := Lib.hid hev3
            have HB3 := Lib.hid hb3
            clear hown3 hgrow3 hb3 hS3 hev3 hs2 HB2 HO2 HSm HX2 Hbig2 hlen3
            go_wp2_with fail
            refine HEv3.out.mono ?_
            rintro e w9 ⟨B, E, rfl, hE, hB9⟩
            obtain ⟨hB, rfl⟩ := ev_whole hE HX.out (by rw [toL_len]; omega)
            have HOK : Hid (RP (.returned (.bool true)) w9) := Lib.hid (by rw [HRP.out]; exact ⟨rfl, (HBr.out.trans (HB3.out.mono HBr.out.size)).trans (hB9.mono (HBr.out.trans (HB3.out.mono HBr.out.size)).size)⟩)
            have Hsame : Hid (sp = false → B = false) := Lib.hid fun h => by rw [hB, ev_more HX.out (Hsp.out h), ← Hx.out]
            clear hE hB9 hB HEv3 HB3 Hsp
            cases sp with
            | true =>
              go_wp2_with fail
              exact HOK.out
            | false =>
              obtain rfl := Hsame.out rfl
              go_wp2_with (go_at_call 14; refine (num_any _ _).mono ?_; rintro e y ⟨rfl, rfl⟩)
              exact HOK.out
end Go.Proofs.YtniphdhbgebedaaGreatDoor
