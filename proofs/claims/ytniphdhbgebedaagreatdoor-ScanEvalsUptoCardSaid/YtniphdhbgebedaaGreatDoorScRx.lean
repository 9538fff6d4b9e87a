/-
  The reference's constraints: a tag's bytes, blanks, what is taken.
-/
import Derived.Test.YtniphdhbgebedaaGreatDoorScAp
namespace Go.Proofs.YtniphdhbgebedaaGreatDoor
open Go.RowKit

set_option linter.unusedSimpArgs false

set_option linter.unusedSimpArgs false

attribute [local go_sem] lt1 lt2 lt3 lt4 lt5 lt6

/-- the reference's expression in memory -/
def XAt (w : World) (p : Nat) (s : List UInt8) (tv : Value) (ok : Bool) : Prop := w.heap[p]? = some (.cells #[.string (mkS s), tv, .bool ok] 78 (0, 0))
theorem XAt.set {w : World} {p : Nat} {s : List UInt8} {tv : Value} {ok : Bool} (h : XAt w p s tv ok) (s' : List UInt8) : XAt (w.setCell ⟨p, 0, none⟩ (.string (mkS s'))) p s' tv ok := by
  unfold XAt; rw [heap_setCell_at h]; rfl
theorem XAt.fail {w : World} {p : Nat} {s : List UInt8} {tv : Value} {ok : Bool} (h : XAt w p s tv ok) : XAt (w.setCell ⟨p, 2, none⟩ (.bool false)) p s tv false := by
  unfold XAt; rw [heap_setCell_at h]; rfl
def xLen (p : Nat) (w : World) : Nat := match w.cell? ⟨p, 0, none⟩ with
  | some (.string s) => s.size
  | _ => 0
theorem XAt.len {w : World} {p : Nat} {s : List UInt8} {tv : Value} {ok : Bool} (h : XAt w p s tv ok) : xLen p w = s.length := by
  have : w.cell? ⟨p, 0, none⟩ = some (.string (mkS s)) := (blk_cells h).1 0
  unfold xLen
  rw [this]
  simp [mkS, ByteArray.size]
theorem skip_idem (s : List UInt8) : skipB (skipB s) = skipB s := by
  unfold skipB
  induction s with
  | nil => rfl
  | cons c r ih =>
    by_cases h : blankB c = true
    · rw [List.dropWhile_cons_of_pos h]; exact ih
    · rw [List.dropWhile_cons_of_neg h, List.dropWhile_cons_of_neg h]
def BlR (p : Nat) (s : List UInt8) (tv : Value) (ok : Bool) (w wr : World) : Prop := ∃ s', Hid (XAt wr p s' tv ok) ∧ Hid (skipB s' = skipB s) ∧ s'.length ≤ s.length ∧ Hid (Fr [p] w wr)
def BlP (p : Nat) (s : List UInt8) (tv : Value) (ok : Bool) (w : World) (e : Ending) (w' : World) : Prop := (∃ u, e = .returned u) ∧ XAt w' p (skipB s) tv ok ∧ Fr [p] w w'
set_option maxRecDepth 100000 in
set_option maxHeartbeats 8000000 in
theorem blanks_any (w : World) (p : Nat) (s : List UInt8) (tv : Value) (ok : Bool) (h : XAt w p s tv ok) (hs : s.length ≤ 1048576) :
    Calls Tryz.prog 38 #[.pointer (some ⟨p, 0, none⟩)] w (BlP p s tv ok w) := by
  obtain ⟨RP, hRP⟩ : ∃ RP, RP = BlP p s tv ok w := ⟨_, rfl⟩
  rw [← hRP]
  have HRP := Lib.hid hRP
  have H := Lib.hid h
  clear h hRP
  go_enter Tryz.func38, Tryz.ntmps38
  go_wp2_with fail
  go_loopw [] (fun wr => BlR p s tv ok w wr) (fun wr => xLen p wr)
  case atStart => exact ⟨s, H, Lib.hid rfl, by omega, Lib.hid (Fr.refl _ _)⟩
  case round =>
    obtain ⟨s', HX, Hsk, hle, HF⟩ := hrel
    have hc : wr.cell? ⟨p, 0, none⟩ = some (.string (mkS s')) := (blk_cells HX.out).1 0
    have hcf := (blk_cells HX.out).2.1 0
    cases s' with
    | nil =>
      rw [show mkS [] = ⟨#[]⟩ from rfl] at hc
      have HE : Hid (∀ u, RP (.returned u) wr) := Lib.hid fun u => by rw [HRP.out]; exact ⟨⟨u, rfl⟩, by rw [← Hsk.out]; exact HX.out, HF.out⟩
      go_wp2_with fail
      go_end0
      exact HE.out _
    | cons c r =>
      obtain ⟨S, hS⟩ : ∃ S, mkS (c :: r) = S := ⟨_, rfl⟩
      have hSz : S.size = r.length + 1 := by rw [← hS]; simp [mkS, ByteArray.size]
      have hS0 : 0 < S.size := by omega
      have hSc : S[0] = c := by rw [str_byte hS0, ← hS]; rfl
      have hSe : S.toList.isEmpty = false := by rw [toList_toL, ← hS, toL_mkS]; rfl
      have hSd : S.extract 1 S.size = mkS r := by rw [← hS, drop_bytes]; rfl
      rw [hS] at hc
      simp only [List.length_cons] at hle
      have Hlen : Hid (xLen p wr = r.length + 1) := Lib.hid (by rw [HX.out.len]; rfl)
      have HX2 := Lib.hid (HX.out.set r)
      have HF2 := Lib.hid (HF.out.trans (Fr.setCell [p] wr ⟨p, 0, none⟩ (.string (mkS r)) (by simp)))
      have HSd := Lib.hid hSd
      have hSb : S.size ≤ 1048576 := by omega
      have h32 : (c = 32) ↔ c.toNat = 32 := ⟨fun h => by rw [h]; rfl, fun h => UInt8.toNat_inj.1 h⟩
      have h9 : (c = 9) ↔ c.toNat = 9 := ⟨fun h => by rw [h]; rfl, fun h => UInt8.toNat_inj.1 h⟩
      clear hSz
      by_cases hb : c.toNat = 32 ∨ c.toNat = 9
      · have hbl : blankB c = true := by unfold blankB; rcases hb with h | h; rw [h32.2 h]; rfl; rw [h9.2 h]; rfl
        have hsk : skipB r = skipB s := by rw [← Hsk.out]; unfold skipB; rw [List.dropWhile_cons_of_pos hbl]
        have HR : Hid (BlR p s tv ok w (wr.setCell ⟨p, 0, none⟩ (.string (S.extract 1 S.size)))) := Lib.hid (by rw [HSd.out]; exact ⟨r, HX2, Lib.hid hsk, by omega, HF2⟩)
        have HM : Hid (xLen p (wr.setCell ⟨p, 0, none⟩ (.string (S.extract 1 S.size))) < xLen p wr) := Lib.hid (by rw [HSd.out, HX2.out.len, Hlen.out]; omega)
        clear hsk hbl h32 h9 HX2 HF2 Hsk Hlen hS hSd HSd HX
        by_cases hb1 : c.toNat = 32
        · have i1 : ((c.toNat : Int) == 32) = true := by rw [beq_iff_eq]; omega
          clear hb hb1
          go_wp2_with fail
          exact ⟨HR.out, HM.out⟩
        · have i1 : ((c.toNat : Int) == 32) = false := by rw [beq_eq_false_iff_ne]; omega
          have i2 : ((c.toNat : Int) == 9) = true := by rw [beq_iff_eq]; omega
          clear hb hb1
          go_wp2_with fail
          exact ⟨HR.out, HM.out⟩
      · have hbl : ¬ blankB c = true := by
          unfold blankB
          simp only [Bool.or_eq_true, beq_iff_eq, h32, h9]
          exact hb
        have HE : Hid (∀ u, RP (.returned u) wr) := Lib.hid fun u => by
          rw [HRP.out]
          refine ⟨⟨u, rfl⟩, ?_, HF.out⟩
          rw [← Hsk.out, show skipB (c :: r) = c :: r from by unfold skipB; rw [List.dropWhile_cons_of_neg hbl]]
          exact HX.out
        have i1 : ((c.toNat : Int) == 32) = false := by rw [beq_eq_false_iff_ne]; omega
        have i2 : ((c.toNat : Int) == 9) = false := by rw [beq_eq_false_iff_ne]; omega
        clear h32 h9 HX2 HF2 Hsk Hlen hS hSd HSd HX hb hbl
        go_wp2_with fail
        go_end0
        exact HE.out _
def TaP (p : Nat) (g s : List UInt8) (tv : Value) (ok : Bool) (w : World) (e : Ending) (w' : World) : Prop := e = .returned (.bool (signP g s).1) ∧ XAt w' p (signP g s).2 tv ok ∧ Fr [p] w w'
set_option maxRecDepth 100000 in
set_option maxHeartbeats 8000000 in
theorem takes_any (w : World) (p : Nat) (g s : List UInt8) (tv : Value) (ok : Bool) (h : XAt w p s tv ok) (hs : s.length ≤ 1048576) (hg : g.length ≤ 2) :
    Calls Tryz.prog 71 #[.pointer (some ⟨p, 0, none⟩), .string (mkS g)] w (TaP p g s tv ok w) := by
  obtain ⟨RP, hRP⟩ : ∃ RP, RP = TaP p g s tv ok w := ⟨_, rfl⟩
  rw [← hRP]
  have HRP := Lib.hid hRP
  have hbk := blanks_any w p s tv ok h hs
  have HBk := Lib.hid hbk
  obtain ⟨G, hG⟩ : ∃ G, mkS g = G := ⟨_, rfl⟩
  have hGz : G.size = g.length := by rw [← hG]; simp [mkS, ByteArray.size]
  rw [hG]
  clear hRP h hbk
  go_enter Tryz.func71, Tryz.ntmps71
  go_wp2_with fail
  refine HBk.out.mono ?_
  rintro e y ⟨⟨u, rfl⟩, hX, hF⟩
  obtain ⟨K, hK⟩ : ∃ K, skipB s = K := ⟨_, rfl⟩
  have hKl : K.length ≤ s.length := by rw [← hK]; exact (List.dropWhile_suffix _).length_le
  rw [hK] at hX
  have hsg : signP g s = if g.isPrefixOf K = true then (true, K.drop g.length) else (false, K) := by unfold signP; rw [hK]
  have hc : y.cell? ⟨p, 0, none⟩ = some (.string (mkS K)) := (blk_cells hX).1 0
  have hcf := (blk_cells hX).2.1 0
  have hKz : (mkS K).size = K.length := by simp [mkS, ByteArray.size]
  have hbg := begins_any (mkS K) G y (by omega) (by omega)
  rw [toL_mkS, ← hG, toL_mkS] at hbg
  have hdr : (mkS K).extract g.length (mkS K).size = mkS (K.drop g.length) := drop_bytes _ _
  rw [hG] at hbg
  have HX := Lib.hid hX
  have HF := Lib.hid hF
  have HSG := Lib.hid hsg
  have HD := Lib.hid hdr
  have HG := Lib.hid hG
  rcases Bool.eq_false_or_eq_true (g.isPrefixOf K) with hpre | hpre
  · have hle : g.length ≤ K.length := (List.isPrefixOf_iff_prefix.1 hpre).length_le
    rw [hpre] at hbg
    have HBg := Lib.hid hbg
    have HSG2 := Lib.hid (HSG.out.trans (by rw [if_pos hpre]))
    have HE : Hid (RP (.returned (.bool true)) (y.setCell ⟨p, 0, none⟩ (.string ((mkS K).extract G.size (mkS K).size)))) := Lib.hid (by
      rw [HRP.out, hGz, HD.out]
      refine ⟨by rw [HSG2.out], ?_, HF.out.trans (Fr.setCell [p] y ⟨p, 0, none⟩ _ (by simp))⟩
      rw [HSG2.out]
      exact HX.out.set _)
    have hGK : G.size ≤ (mkS K).size := by omega
    have hKb : (mkS K).size ≤ 1048576 := by omega
    have hGb : G.size ≤ 2 := by omega
    obtain ⟨S, hS⟩ : ∃ S, mkS K = S := ⟨_, rfl⟩
    rw [hS] at HE hGK hKb hc HBg
    clear hX hF hsg hbg hdr hK hpre hle hKz hGz hG HSG HD hS HG
    go_wp2_with (go_at_call 20; refine HBg.out.mono ?_; rintro e z ⟨rfl, hz⟩; rw [hz])
    exact HE.out
  · rw [hpre] at hbg
    have HBg := Lib.hid hbg
    have HSG2 := Lib.hid (HSG.out.trans (by rw [if_neg (by rw [hpre]; exact Bool.false_ne_true)]))
    have HE : Hid (RP (.returned (.bool false)) y) := Lib.hid (by
      rw [HRP.out]
      refine ⟨by rw [HSG2.out], ?_, HF.out⟩
      rw [HSG2.out]
      exact HX.out)
    clear hX hF hsg hbg hdr hK hpre hKz hGz hG HSG HD HG
    go_wp2_with (go_at_call 20; refine HBg.out.mono ?_; rintro e z ⟨rfl, hz⟩; rw [hz])
    exact HE.out
set_option maxHeartbeats 4000000 in
theorem rdigit_any (c : UInt8) (w : World) : Calls Tryz.prog 174 #[.int .u8 (c.toNat : Int)] w fun e w' => e = .returned (.bool (digB c)) ∧ w = w' := by
  obtain ⟨B, hB⟩ : ∃ B, B = digB c := ⟨_, rfl⟩
  rw [← hB]
  rw [digB_iff] at hB
  have HB := Lib.hid hB
  clear hB
  generalize c.toNat = n at *
  by_cases h1 : 48 ≤ n
  · have i1 : (48 : Int) ≤ n := by omega
    by_cases h2 : n ≤ 57
    · have i2 : (n : Int) ≤ 57 := by omega
      go_enter Tryz.func174, Tryz.ntmps174
      go_wp2_with fail
      go_ret
      exact ⟨ret_bool (by rw [HB.out]; first | (symm; rw [decide_eq_true_eq]; omega) | (symm; rw [decide_eq_false_iff_not]; omega)), rfl⟩
    · have i2 : ¬ (n : Int) ≤ 57 := by omega
      go_enter Tryz.func174, Tryz.ntmps174
      go_wp2_with fail
      go_ret
      exact ⟨ret_bool (by rw [HB.out]; first | (symm; rw [decide_eq_true_eq]; omega) | (symm; rw [decide_eq_false_iff_not]; omega)), rfl⟩
  · have i1 : ¬ (48 : Int) ≤ n := by omega
    go_enter Tryz.func174, Tryz.ntmps174
    go_wp2_with fail
    go_ret
    exact ⟨ret_bool (by rw [HB.out]; first | (symm; rw [decide_eq_true_eq]; omega) | (symm; rw [decide_eq_false_iff_not]; omega)), rfl⟩
theorem tagB_nat (c : UInt8) : tagB c = (((decide (97 ≤ c.toNat) && decide (c.toNat ≤ 122)) || (decide (65 ≤ c.toNat) && decide (c.toNat ≤ 90))) || digB c || decide (c.toNat = 95) || decide (c.toNat = 46)) := by
  rw [digB_iff]
  have h95 : (c = 95) ↔ c.toNat = 95 := ⟨fun h => by rw [h]; rfl, fun h => UInt8.toNat_inj.1 h⟩
  have h46 : (c = 46) ↔ c.toNat = 46 := ⟨fun h => by rw [h]; rfl, fun h => UInt8.toNat_inj.1 h⟩
  unfold tagB
  rw [Bool.eq_iff_iff]
  simp only [Bool.or_eq_true, Bool.and_eq_true, decide_eq_true_eq, beq_iff_eq, le_nat, h95, h46]
  simp only [show (97 : UInt8).toNat = 97 from rfl, show (122 : UInt8).toNat = 122 from rfl, show (65 : UInt8).toNat = 65 from rfl, show (90 : UInt8).toNat = 90 from rfl, show (48 : UInt8).toNat = 48 from rfl, show (57 : UInt8).toNat = 57 from rfl]
  omega
set_option maxRecDepth 100000 in
set_option maxHeartbeats 16000000 in
theorem rtag_any (c : UInt8) (w : World) : Calls Tryz.prog 166 #[.int .u8 (c.toNat : Int)] w fun e w' => e = .returned (.bool (tagB c)) ∧ w = w' := by
  have hI := tagB_nat c
  have hd := rdigit_any c w
  obtain ⟨b2, hb2⟩ : ∃ b, digB c = b := ⟨_, rfl⟩
  rw [hb2] at hd hI
  obtain ⟨B, hB⟩ : ∃ B, tagB c = B := ⟨_, rfl⟩
  rw [hB] at hI ⊢
  have HI := Lib.hid hI
  have HD := Lib.hid hd
  clear hI hd hb2 hB
  generalize c.toNat = n at *
  have fin : ∀ b, (((decide (97 ≤ n) && decide (n ≤ 122)) || (decide (65 ≤ n) && decide (n ≤ 90))) || b2 || decide (n = 95) || decide (n = 46)) = b → B = b := fun b h => HI.out.trans h
  have Fin := Lib.hid fin
  clear fin HI
  by_cases h1 : 97 ≤ n
  · have i1 : (97 : Int) ≤ n := by omega
    by_cases h2 : n ≤ 122
    · have i2 : (n : Int) ≤ 122 := by omega
      have HB := Lib.hid (Fin.out true (by simp [h1, h2]))
      clear Fin h1 h2
      go_enter Tryz.func166, Tryz.ntmps166
      go_wp2_with (go_at_call 174; refine HD.out.mono ?_; rintro e y ⟨rfl, rfl⟩)
      go_ret
      exact ⟨ret_bool (by rw [HB.out]), rfl⟩
    · have i2 : ¬ (n : Int) ≤ 122 := by omega
      have i3 : (65 : Int) ≤ n := by omega
      have i4 : ¬ (n : Int) ≤ 90 := by omega
      have j5 : ¬ n = 95 := by omega
      have j6 : ¬ n = 46 := by omega
      have i5 : ((n : Int) == 95) = false := by rw [beq_eq_false_iff_ne]; omega
      have i6 : ((n : Int) == 46) = false := by rw [beq_eq_false_iff_ne]; omega
      have h4 : ¬ n ≤ 90 := by omega
      cases b2
      · have HB := Lib.hid (Fin.out false (by rw [decide_eq_false h2, decide_eq_false h4, decide_eq_false j5, decide_eq_false j6, Bool.and_false, Bool.and_false]; rfl))
        clear Fin h1 h2 j5 j6 h4
        go_enter Tryz.func166, Tryz.ntmps166
        go_wp2_with (go_at_call 174; refine HD.out.mono ?_; rintro e y ⟨rfl, rfl⟩)
        go_ret
        exact ⟨ret_bool (by rw [HB.out]), rfl⟩
      · have HB := Lib.hid (Fin.out true (by rw [Bool.or_true, Bool.true_or]; rfl))
        clear Fin h1 h2 j5 j6 h4
        go_enter Tryz.func166, Tryz.ntmps166
        go_wp2_with (go_at_call 174; refine HD.out.mono ?_; rintro e y ⟨rfl, rfl⟩)
        go_ret
        exact ⟨ret_bool (by rw [HB.out]), rfl⟩
  · have i1 : ¬ (97 : Int) ≤ n := by omega
    by_cases h3 : 65 ≤ n
    · have i3 : (65 : Int) ≤ n := by omega
      by_cases h4 : n ≤ 90
      · have i4 : (n : Int) ≤ 90 := by omega
        have HB := Lib.hid (Fin.out true (by rw [decide_eq_true h3, decide_eq_true h4]; simp))
        clear Fin h1 h3 h4
        go_enter Tryz.func166, Tryz.ntmps166
        go_wp2_with (go_at_call 174; refine HD.out.mono ?_; rintro e y ⟨rfl, rfl⟩)
        go_ret
        exact ⟨ret_bool (by rw [HB.out]), rfl⟩
      · have i4 : ¬ (n : Int) ≤ 90 := by omega
        have j6 : ¬ n = 46 := by omega
        have i6 : ((n : Int) == 46) = false := by rw [beq_eq_false_iff_ne]; omega
        cases b2
        · by_cases j5 : n = 95
          · have i5 : ((n : Int) == 95) = true := by rw [beq_iff_eq]; omega
            have HB := Lib.hid (Fin.out true (by rw [decide_eq_true j5]; simp))
            clear Fin h1 h3 h4 j5 j6
            go_enter Tryz.func166, Tryz.ntmps166
            go_wp2_with (go_at_call 174; refine HD.out.mono ?_; rintro e y ⟨rfl, rfl⟩)
            go_ret
            exact ⟨ret_bool (by rw [HB.out]), rfl⟩
          · have i5 : ((n : Int) == 95) = false := by rw [beq_eq_false_iff_ne]; omega
            have HB := Lib.hid (Fin.out false (by rw [decide_eq_false h1, decide_eq_false h4, decide_eq_false j5, decide_eq_false j6, Bool.and_false, Bool.false_and]; rfl))
            clear Fin h1 h3 h4 j5 j6
            go_enter Tryz.func166, Tryz.ntmps166
            go_wp2_with (go_at_call 174; refine HD.out.mono ?_; rintro e y ⟨rfl, rfl⟩)
            go_ret
            exact ⟨ret_bool (by rw [HB.out]), rfl⟩
        · have HB := Lib.hid (Fin.out true (by rw [Bool.or_true, Bool.true_or]; rfl))
          clear Fin h1 h3 h4 j6
          go_enter Tryz.func166, Tryz.ntmps166
          go_wp2_with (go_at_call 174; refine HD.out.mono ?_; rintro e y ⟨rfl, rfl⟩)
          go_ret
          exact ⟨ret_bool (by rw [HB.out]), rfl⟩
    · have i3 : ¬ (65 : Int) ≤ n := by omega
      have j5 : ¬ n = 95 := by omega
      have i5 : ((n : Int) == 95) = false := by rw [beq_eq_false_iff_ne]; omega
      cases b2
      · by_cases j6 : n = 46
        · have i6 : ((n : Int) == 46) = true := by rw [beq_iff_eq]; omega
          have HB := Lib.hid (Fin.out true (by rw [decide_eq_true j6]; simp))
          clear Fin h1 h3 j5 j6
          go_enter Tryz.func166, Tryz.ntmps166
          go_wp2_with (go_at_call 174; refine HD.out.mono ?_; rintro e y ⟨rfl, rfl⟩)
          go_ret
          exact ⟨ret_bool (by rw [HB.out]), rfl⟩
        · have i6 : ((n : Int) == 46) = false := by rw [beq_eq_false_iff_ne]; omega
          have HB := Lib.hid (Fin.out false (by rw [decide_eq_false h1, decide_eq_false h3, decide_eq_false j5, decide_eq_false j6, Bool.false_and, Bool.false_and]; rfl))
          clear Fin h1 h3 j5 j6
          go_enter Tryz.func166, Tryz.ntmps166
          go_wp2_with (go_at_call 174; refine HD.out.mono ?_; rintro e y ⟨rfl, rfl⟩)
          go_ret
          exact ⟨ret_bool (by rw [HB.out]), rfl⟩
      · have HB := Lib.hid (Fin.out true (by rw [Bool.or_true, Bool.true_or]; rfl))
        clear Fin h1 h3 j5
        go_enter Tryz.func166, Tryz.ntmps166
        go_wp2_with (go_at_call 174; refine HD.out.mono ?_; rintro e y ⟨rfl, rfl⟩)
        go_ret
        exact ⟨ret_bool (by rw [HB.out]), rfl⟩
end Go.Proofs.YtniphdhbgebedaaGreatDoor
