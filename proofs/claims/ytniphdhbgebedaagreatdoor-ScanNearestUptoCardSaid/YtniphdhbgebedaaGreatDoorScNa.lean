/-
  The law ScanNearest.
-/
import Derived.Test.YtniphdhbgebedaaGreatDoorScAp
namespace Go.Proofs.YtniphdhbgebedaaGreatDoor
open Go.RowKit

set_option linter.unusedSimpArgs false

set_option linter.unusedSimpArgs false

attribute [local go_sem] lt1 lt2 lt3 lt4 lt5 lt6

def LawPost (w : World) (e : Ending) (w' : World) : Prop := e = .returned (.bool true) ∧ Below w.heap.size w w'
def UpRel (L : Nat) (iv : Value) : Prop := ∃ k : Nat, k ≤ L ∧ iv = .int .i64 (k : Nat)
set_option maxRecDepth 100000 in
set_option maxHeartbeats 16000000 in
theorem nearest_any (w : World) (hg : Glob w) (p : ByteArray) (A : Option Addr) (c : Nat) (T : List ByteArray) (m : ByteArray) (hS : Sl w A c T.length 1 (txV T)) (hl : T.length ≤ 1048576) (hz : ∀ t ∈ T, t.size ≤ 1048576) (hp : p.size ≤ 1048576) (hm : m.size ≤ 1048576) :
    Calls Tryz.prog 6 #[.string p, .slice A T.length c, .string m] w (LawPost w) := by
  have hfi := first_any w hg
  have HF := Lib.hid hfi
  have HS := Lib.hid hS
  have HZ := Lib.hid hz
  obtain ⟨RP, hRP⟩ : ∃ RP, RP = LawPost w := ⟨_, rfl⟩
  rw [← hRP]
  have HRP := Lib.hid hRP
  clear hS hz hRP hfi hg
  go_enter Tryz.func6, Tryz.ntmps6
  go_wp2_with fail
  refine HF.out.mono ?_
  rintro e w1 ⟨rfl, hB1⟩
  have hS1 := HS.out.keep (Cells.of_below hB1)
  have hfew := few_any w1 A c T hS1 hl HZ.out
  have HB1 := Lib.hid hB1
  have HS1 := Lib.hid hS1
  have HW := Lib.hid hfew
  have HOK : Hid (RP (.returned (.bool true)) w1) := Lib.hid (by rw [HRP.out]; exact ⟨rfl, HB1.out⟩)
  clear hB1 hS1 hfew HF
  go_wp2_with fail
  refine HW.out.mono ?_
  rintro e w2 ⟨b, rfl, hbl, rfl⟩
  have Hbl := Lib.hid hbl
  clear hbl HW
  cases b with
  | false =>
    go_wp2_with fail
    exact HOK.out
  | true =>
  have hT : T.length ≤ 60 := Hbl.out rfl
  by_cases hp6 : ((p.size : Int) > 6000)
  · go_wp2_with fail
    exact HOK.out
  by_cases hm6 : ((m.size : Int) > 6000)
  · go_wp2_with fail
    exact HOK.out
  have hpv := provider_any w2 p A c T HS1.out hl HZ.out
  have HPv := Lib.hid hpv
  clear hpv
  go_wp2_with fail
  refine HPv.out.mono ?_
  rintro e w3 ⟨rfl, hpr⟩
  obtain ⟨pv, hpv⟩ : ∃ z, provL (toL p) (Ls T) = z := ⟨_, rfl⟩
  rw [hpv] at hpr
  have Hpv := Lib.hid hpv
  obtain ⟨P, E, rfl, hPE⟩ : ∃ (P : ByteArray) (E : Int), e = .returned (.tuple #[.string P, .int .i64 E]) ∧ ((pv = none ∧ P = ⟨#[]⟩ ∧ E = 30) ∨ ∃ y, pv = some y ∧ P = mkS y ∧ E = 0) := by
    cases pv with
    | none => exact ⟨_, _, hpr, .inl ⟨rfl, rfl, rfl⟩⟩
    | some y => exact ⟨_, _, hpr, .inr ⟨y, rfl, rfl, rfl⟩⟩
  have HPE := Lib.hid hPE
  obtain ⟨iS, hiS, hzS, hsS, hbS⟩ := info_parts infoStr1
  obtain ⟨x0, hx0⟩ : ∃ x, w3.alloc (.cells #[] 9) = x := ⟨_, rfl⟩
  have ho0 : x0.ownsRow w3.heap.size 9 1 (.slice (some ⟨w3.heap.size, 0, none⟩) 0 0) 0 [] := by rw [← hx0]; exact own_empty (Nat.le_refl _)
  have hb0 : Below w3.heap.size w3 x0 := by rw [← hx0]; exact (Below.refl _ w3).alloc (Nat.le_refl _) _
  have hSx := HS1.out.keep (Cells.of_below hb0)
  have hs0 : w3.heap.size ≤ x0.heap.size := hb0.size
  have HO0 := Lib.hid ho0
  have HB0 := Lib.hid hb0
  have HSx := Lib.hid hSx
  have HX0 := Lib.hid hx0
  have Hbig : Hid (0 + T.length ≤ maxLen ∧ (0 + T.length) * 16 ≤ 140737488355328) := Lib.hid ⟨by unfold maxLen; omega, by omega⟩
  clear hpr hpv hPE hx0 ho0 hb0 hSx HPv
  go_wp2_with (at_builtin; rw [HX0.out]; refine append_any _ rfl (.tmp 43) (.tmp 44) 22 rfl w3.heap.size 9 iS (.string ByteArray.empty) 16 Tryz.underlying22 hiS hzS hsS hbS rfl (.slice (some ⟨w3.heap.size, 0, none⟩) 0 0) 0 [] rfl HO0.out A T.length c (txV T) rfl HSx.out (txV_one _) Hbig.out.1 Hbig.out.2 hs0 ?_)
  intro v1 x1 hown1 hgrow1
  have hb1 : Below w3.heap.size w3 x1 := HB0.out.grown hgrow1 hs0 (fun q hq => (own_blk HO0.out q hq).1)
  have hs1 := hb1.size
  obtain ⟨x2, hx2⟩ : ∃ x, x1.alloc (.cells #[.string m] 9) = x := ⟨_, rfl⟩
  have hown2 : x2.ownsRow w3.heap.size 9 1 v1 T.length (txV T) := by rw [← hx2]; exact hown1.alloc _
  have hb2 : Below w3.heap.size w3 x2 := by rw [← hx2]; exact hb1.alloc hs1 _
  have hs2 := hb2.size
  have hSm : Sl x2 (some ⟨x1.heap.size, 0, none⟩) 1 1 1 (txV [m]) := by rw [← hx2]; exact sl_one
  have HO2 := Lib.hid hown2
  have HB2 := Lib.hid hb2
  have HSm := Lib.hid hSm
  have HX2 := Lib.hid hx2
  have Hbig2 : Hid (T.length + 1 ≤ maxLen ∧ (T.length + 1) * 16 ≤ 140737488355328) := Lib.hid ⟨by unfold maxLen; omega, by omega⟩
  clear hown1 hgrow1 hb1 hs1 hown2 hb2 hSm hx2 HO0 HB0 HSx Hbig hs0
  go_wp2_with (at_builtin; rw [HX2.out]; refine append_any _ rfl (.tmp 45) (.tmp 47) 22 rfl w3.heap.size 9 iS (.string ByteArray.empty) 16 Tryz.underlying22 hiS hzS hsS hbS rfl v1 T.length (txV T) rfl HO2.out (some ⟨x1.heap.size, 0, none⟩) 1 1 (txV [m]) rfl HSm.out (txV_one _) Hbig2.out.1 Hbig2.out.2 hs2 ?_)
  intro v3 x3 hown3 hgrow3
  have hb3 : Below w3.heap.size w3 x3 := HB2.out.grown hgrow3 hs2 (fun q hq => (own_blk HO2.out q hq).1)
  obtain ⟨A3, c3, rfl, hS3⟩ := row_sl hown3
  rw [show txV T ++ [Value.string m] = txV (T ++ [m]) from txV_app T [m]] at hS3
  have hlen3 : (T ++ [m]).length = T.length + 1 := by simp
  have hpv3 := provider_any x3 p A3 c3 (T ++ [m]) (by rw [hlen3]; exact hS3) (by omega) (fun t ht => by rcases List.mem_append.1 ht with h | h; exact HZ.out t h; rw [List.mem_singleton.1 h]; exact hm)
  rw [hlen3] at hpv3
  have HPv3 := Lib.hid hpv3
  have HB3 := Lib.hid hb3
  clear hown3 hgrow3 hb3 hS3 hpv3 hs2 HB2 HO2 HSm HX2 Hbig2
  go_wp2_with fail
  refine HPv3.out.mono ?_
  rintro e w4 ⟨rfl, hpr⟩
  obtain ⟨pv3, hpv3⟩ : ∃ z, provL (toL p) (Ls (T ++ [m])) = z := ⟨_, rfl⟩
  rw [hpv3] at hpr
  have Hpv3 := Lib.hid hpv3
  obtain ⟨P3, E3, rfl, hPE3⟩ : ∃ (P : ByteArray) (E : Int), e = .returned (.tuple #[.string P, .int .i64 E]) ∧ ((pv3 = none ∧ P = ⟨#[]⟩ ∧ E = 30) ∨ ∃ y, pv3 = some y ∧ P = mkS y ∧ E = 0) := by
    cases pv3 with
    | none => exact ⟨_, _, hpr, .inl ⟨rfl, rfl, rfl⟩⟩
    | some y => exact ⟨_, _, hpr, .inr ⟨y, rfl, rfl, rfl⟩⟩
  have HPE3 := Lib.hid hPE3
  have HS4 := Lib.hid (HS1.out.keep (Cells.of_below HB3.out))
  have HOK4 : Hid (RP (.returned (.bool true)) w4) := Lib.hid (by rw [HRP.out]; exact ⟨rfl, HB1.out.trans (HB3.out.mono HB1.out.size)⟩)
  clear hpr hpv3 hPE3 HPv3 HOK HS1
  rcases HPE.out with ⟨hn, rfl, rfl⟩ | ⟨y, hy, rfl, rfl⟩
  · have hnone := prov_none (Hpv.out.trans hn)
    have Hnone := Lib.hid hnone
    clear hn hnone HPE
    go_wp2_with (go_at_call 14; refine (num_any _ _).mono ?_; rintro e y ⟨rfl, hy⟩; cases hy)
    go_loop [13] (fun iv => UpRel T.length iv) (fun iv => T.length - (intOf iv).toNat)
    case atStart => exact ⟨0, by omega, rfl⟩
    case round =>
      obtain ⟨k, hk, rfl⟩ := hrel
      have hkr : (0 : Int) ≤ k := by omega
      by_cases hlt : k < T.length
      · have hkI : (k : Int) < T.length := by omega
        obtain ⟨bb, o, s, rfl, hs, hc⟩ := str_at HS4.out hlt
        have hsz : s.size ≤ 1048576 := HZ.out s (List.mem_of_getElem? hs)
        have hown := Hnone.out (toL s) (List.mem_map.2 ⟨s, List.mem_of_getElem? hs, rfl⟩)
        unfold ownB at hown
        rw [Bool.or_eq_false_iff, decide_eq_false_iff_not] at hown
        have hseq := str_eq p s
        rw [decide_eq_false (fun h => hown.1 (by rw [h]))] at hseq
        have hbg := begins_any p (s ++ ⟨#[47]⟩) w4 (by omega) (by rw [ByteArray.size_append, show (⟨#[47]⟩ : ByteArray).size = 1 from rfl]; omega)
        rw [add_slash, hown.2] at hbg
        have HBg := Lib.hid hbg
        clear hs hown hbg
        go_wp2_with (go_at_call 20; refine HBg.out.mono ?_; rintro e y ⟨rfl, hy⟩; rw [hy])
        exact ⟨⟨k + 1, by omega, by go_num⟩, by simp [intOf]; omega⟩
      · have hkI : ¬ (k : Int) < T.length := by omega
        go_wp2_with fail
        exact HOK4.out
  · have hyy := prov_some (Hpv.out.trans hy)
    obtain ⟨hin, hown, hfar⟩ := hyy
    have hin' : mkS y ∈ T := by
      obtain ⟨s, hs, e⟩ := List.mem_map.1 hin
      rw [← e, mkS_toL]
      exact hs
    have hysz : (mkS y).size ≤ 1048576 := HZ.out _ hin'
    obtain ⟨z, hzz, hyz⟩ := prov_more (more := toL m) (Hpv.out.trans hy)
    rw [show Ls T ++ [toL m] = Ls (T ++ [m]) by simp [Ls], Hpv3.out] at hzz
    obtain ⟨rfl, rfl⟩ : P3 = mkS z ∧ E3 = 0 := by
      rcases HPE3.out with ⟨h, _⟩ | ⟨z', h, h2, h3⟩
      · rw [hzz] at h; cases h
      · rw [hzz] at h; cases h; exact ⟨h2, h3⟩
    have hhas := has_any w4 A c T (mkS y) HS4.out hl
    rw [(Lib.containsS_iff T _).2 hin'] at hhas
    have hseq := str_eq p (mkS y)
    have hbg : Calls Tryz.prog 20 #[.string p, .string (mkS y ++ ⟨#[47]⟩)] w4 fun e w' => e = .returned (.bool ((y ++ [47]).isPrefixOf (toL p))) ∧ w' = w4 := by
      have := begins_any p (mkS y ++ ⟨#[47]⟩) w4 (by omega) (by rw [ByteArray.size_append, show (⟨#[47]⟩ : ByteArray).size = 1 from rfl]; omega)
      rwa [add_slash, toL_mkS] at this
    have hlen : ¬ ((mkS z).size : Int) < (mkS y).size := by
      have h1 : (mkS z).size = z.length := by simp [mkS, ByteArray.size]
      have h2 : (mkS y).size = y.length := by simp [mkS, ByteArray.size]
      omega
    have hbt : p ≠ mkS y → (y ++ [47]).isPrefixOf (toL p) = true := fun h => by
      unfold ownB at hown
      rw [Bool.or_eq_true, decide_eq_true_eq] at hown
      rcases hown with hown | hown
      · exact absurd (by rw [hown, mkS_toL]) h
      · exact hown
    have hysize : (mkS y).size = y.length := by simp [mkS, ByteArray.size]
    obtain ⟨Y, hY⟩ : ∃ Y, mkS y = Y := ⟨_, rfl⟩
    obtain ⟨Z, hZ⟩ : ∃ Z, mkS z = Z := ⟨_, rfl⟩
    rw [hY] at hhas hseq hbg hlen hysize hysz
    rw [hZ] at hlen
    rw [hY] at hbt
    rw [hY, hZ]
    have hlenN : ¬ Z.size < Y.size := by omega
    have Hhas := Lib.hid hhas
    have Hbg := Lib.hid hbg
    have Hbt := Lib.hid hbt
    have Hfar := Lib.hid hfar
    clear hin hown hfar hin' hzz hhas hbg hbt hY hZ hyz HPE HPE3 Hpv Hpv3 hy
    have near : ∀ (s : ByteArray), s ∈ T → Y.size < s.size → p ≠ s ∧ (toL s ++ [47]).isPrefixOf (toL p) = false := fun s hs hlt => by
      have h2 : ¬ ownB (toL p) (toL s) = true := fun h => by
        have := Hfar.out (toL s) (List.mem_map.2 ⟨s, hs, rfl⟩) h
        rw [toL_len] at this
        omega
      rw [Bool.not_eq_true] at h2
      unfold ownB at h2
      rw [Bool.or_eq_false_iff, decide_eq_false_iff_not] at h2
      exact ⟨fun h => h2.1 (by rw [h]), h2.2⟩
    have Hnear := Lib.hid near
    clear near hysize Hfar
    rcases Classical.em (p = Y) with he | he
    · rw [decide_eq_true he] at hseq
      clear he
      go_wp2_with (first
        | (go_at_call 14; refine (num_any _ _).mono ?_; rintro e y ⟨rfl, hy⟩; cases hy)
        | (go_at_call 21; refine Hhas.out.mono ?_; rintro e y ⟨rfl, hy⟩; rw [hy])
        | (go_at_call 20; refine Hbg.out.mono ?_; rintro e y ⟨rfl, hy⟩; rw [hy]))
      clear hseq Hhas
      go_loop [14] (fun iv => UpRel T.length iv) (fun iv => T.length - (intOf iv).toNat)
      case atStart => exact ⟨0, by omega, rfl⟩
      case round =>
        obtain ⟨k, hk, rfl⟩ := hrel
        have hkr : (0 : Int) ≤ k := by omega
        by_cases hlt : k < T.length
        · have hkI : (k : Int) < T.length := by omega
          obtain ⟨bb, o, s, rfl, hs, hc⟩ := str_at HS4.out hlt
          have hin := List.mem_of_getElem? hs
          by_cases hg : Y.size < s.size
          · have hgI : (s.size : Int) > Y.size := by omega
            have hsz : s.size ≤ 1048576 := HZ.out s hin
            obtain ⟨hn1, hn2⟩ := Hnear.out s hin hg
            have hseq := str_eq p s
            rw [decide_eq_false hn1] at hseq
            have hbg := begins_any p (s ++ ⟨#[47]⟩) w4 (by omega) (by rw [ByteArray.size_append, show (⟨#[47]⟩ : ByteArray).size = 1 from rfl]; omega)
            rw [add_slash, hn2] at hbg
            have HBs := Lib.hid hbg
            clear hs hin hg hn1 hn2 hbg
            go_wp2_with (go_at_call 20; refine HBs.out.mono ?_; rintro e y ⟨rfl, hy⟩; rw [hy])
            exact ⟨⟨k + 1, by omega, by go_num⟩, by simp [intOf]; omega⟩
          · have hgI : ¬ (s.size : Int) > Y.size := by omega
            clear hs hin hg
            go_wp2_with fail
            exact ⟨⟨k + 1, by omega, by go_num⟩, by simp [intOf]; omega⟩
        · have hkI : ¬ (k : Int) < T.length := by omega
          go_wp2_with fail
          exact HOK4.out
    · rw [decide_eq_false he] at hseq
      have hbg2 := Hbg.out
      rw [Hbt.out he] at hbg2
      have Hbg2 := Lib.hid hbg2
      clear he Hbt hbg2 Hbg
      go_wp2_with (first
        | (go_at_call 14; refine (num_any _ _).mono ?_; rintro e y ⟨rfl, hy⟩; cases hy)
        | (go_at_call 21; refine Hhas.out.mono ?_; rintro e y ⟨rfl, hy⟩; rw [hy])
        | (go_at_call 20; refine Hbg2.out.mono ?_; rintro e y ⟨rfl, hy⟩; rw [hy]))
      clear hseq Hhas
      go_loop [14] (fun iv => UpRel T.length iv) (fun iv => T.length - (intOf iv).toNat)
      case atStart => exact ⟨0, by omega, rfl⟩
      case round =>
        obtain ⟨k, hk, rfl⟩ := hrel
        have hkr : (0 : Int) ≤ k := by omega
        by_cases hlt : k < T.length
        · have hkI : (k : Int) < T.length := by omega
          obtain ⟨bb, o, s, rfl, hs, hc⟩ := str_at HS4.out hlt
          have hin := List.mem_of_getElem? hs
          by_cases hg : Y.size < s.size
          · have hgI : (s.size : Int) > Y.size := by omega
            have hsz : s.size ≤ 1048576 := HZ.out s hin
            obtain ⟨hn1, hn2⟩ := Hnear.out s hin hg
            have hseq := str_eq p s
            rw [decide_eq_false hn1] at hseq
            have hbg := begins_any p (s ++ ⟨#[47]⟩) w4 (by omega) (by rw [ByteArray.size_append, show (⟨#[47]⟩ : ByteArray).size = 1 from rfl]; omega)
            rw [add_slash, hn2] at hbg
            have HBs := Lib.hid hbg
            clear hs hin hg hn1 hn2 hbg
            go_wp2_with (go_at_call 20; refine HBs.out.mono ?_; rintro e y ⟨rfl, hy⟩; rw [hy])
            exact ⟨⟨k + 1, by omega, by go_num⟩, by simp [intOf]; omega⟩
          · have hgI : ¬ (s.size : Int) > Y.size := by omega
            clear hs hin hg
            go_wp2_with fail
            exact ⟨⟨k + 1, by omega, by go_num⟩, by simp [intOf]; omega⟩
        · have hkI : ¬ (k : Int) < T.length := by omega
          go_wp2_with fail
          exact HOK4.out
end Go.Proofs.YtniphdhbgebedaaGreatDoor
