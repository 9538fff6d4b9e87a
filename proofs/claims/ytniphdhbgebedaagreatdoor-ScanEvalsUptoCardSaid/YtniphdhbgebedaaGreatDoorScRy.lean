/-
  The reference's constraints: what stands in parentheses, a tag.
-/
import Derived.Test.YtniphdhbgebedaaGreatDoorScRx
import Derived.Test.YtniphdhbgebedaaGreatDoorScNt
namespace Go.Proofs.YtniphdhbgebedaaGreatDoor
open Go.RowKit

set_option linter.unusedSimpArgs false

set_option linter.unusedSimpArgs false

attribute [local go_sem] lt1 lt2 lt3 lt4 lt5 lt6

/-- what the reference tells of a part of a constraint -/
def RxPost (p : Nat) (tv : Value) (has : List UInt8 → Bool) (l : Nat) (s : List UInt8) (x : World) (e : Ending) (w' : World) : Prop := ∃ b, e = .returned (.bool b) ∧ Fr [p] x w' ∧
  ((∃ a r, Par (.at l) s (some a) r ∧ b = a.ev has ∧ XAt w' p r tv true) ∨ (∃ r s', Par (.at l) s none r ∧ s'.length ≤ s.length ∧ XAt w' p s' tv false))
theorem rsign_len {g s s1 : List UInt8} {b : Bool} (h : signP g s = (b, s1)) : s1.length ≤ s.length ∧ (b = true → s1.length + g.length ≤ s.length) := by
  have h0 : (skipB s).length ≤ s.length := (List.dropWhile_suffix _).length_le
  unfold signP at h
  split at h
  · rename_i hp
    cases h
    have := (List.isPrefixOf_iff_prefix.1 hp).length_le
    rw [List.length_drop]
    exact ⟨by omega, fun _ => by omega⟩
  · cases h
    exact ⟨h0, fun h => by cases h⟩
set_option maxRecDepth 100000 in
set_option maxHeartbeats 16000000 in
theorem rone_any (w : World) (p : Nat) (T : List ByteArray) (A : Option Addr) (cp : Nat) (s0 s : List UInt8) (h : XAt w p s (.slice A T.length cp) true) (hsg : signP [33] s0 = (false, s)) (hs : s0.length ≤ 1048576) (hT : ∀ y, Fr [p] w y → Sl y A cp T.length 1 (txV T)) (hTl : T.length ≤ 1048576)
    (hor : ∀ (y : World) (s' : List UInt8), s'.length < s.length → XAt y p s' (.slice A T.length cp) true → Fr [p] w y → Calls Tryz.prog 37 #[.pointer (some ⟨p, 0, none⟩)] y (RxPost p (.slice A T.length cp) (hasT T) 2 s' y)) :
    Calls Tryz.prog 144 #[.pointer (some ⟨p, 0, none⟩)] w (RxPost p (.slice A T.length cp) (hasT T) 0 s0 w) := by
  have hls := (rsign_len hsg).1
  obtain ⟨RP, hRP⟩ : ∃ RP, RP = RxPost p (.slice A T.length cp) (hasT T) 0 s0 w := ⟨_, rfl⟩
  rw [← hRP]
  have HRP := Lib.hid hRP
  have HT := Lib.hid hT
  have HOr := Lib.hid hor
  have Hsg1 := Lib.hid hsg
  have htk := takes_any w p [40] s _ true h (by omega) (by simp)
  have HTk := Lib.hid htk
  clear hRP hT hor hsg h htk
  go_enter Tryz.func144, Tryz.ntmps144
  go_wp2_with fail
  refine HTk.out.mono ?_
  rintro e y1 ⟨rfl, hX1, hF1⟩
  obtain ⟨t, s2, hsg2⟩ : ∃ t s2, signP [40] s = (t, s2) := ⟨_, _, rfl⟩
  have hl2 := rsign_len hsg2
  rw [hsg2] at hX1 ⊢
  simp only at hX1 ⊢
  cases t with
  | true =>
    have hlt2 : s2.length < s.length := by have := hl2.2 rfl; simp only [List.length_cons, List.length_nil] at this; omega
    have hor1 := HOr.out y1 s2 hlt2 hX1 hF1
    have HO1 := Lib.hid hor1
    have HF1 := Lib.hid hF1
    have Hsg2 := Lib.hid hsg2
    clear hor1 hF1 hX1 hsg2 HTk hl2
    go_wp2_with fail
    refine HO1.out.mono ?_
    rintro e y2 ⟨b, rfl, hF2, ⟨a, r, hpar, hb, hX2⟩ | ⟨r, s', hpar, hsl, hX2⟩⟩
    · have hrl : r.length ≤ s2.length := (tags_in hpar).1.length_le
      have htk := takes_any y2 p [41] r _ true hX2 (by omega) (by simp)
      have HTk := Lib.hid htk
      have HF2 := Lib.hid (HF1.out.trans hF2)
      have Hb := Lib.hid hb
      have Hpar := Lib.hid hpar
      clear hX2 hF2 htk hb hpar HO1
      go_wp2_with fail
      refine HTk.out.mono ?_
      rintro e y3 ⟨rfl, hX3, hF3⟩
      obtain ⟨t3, s4, hsg3⟩ : ∃ t s4, signP [41] r = (t, s4) := ⟨_, _, rfl⟩
      have hl3 := (rsign_len hsg3).1
      rw [hsg3] at hX3 ⊢
      simp only at hX3 ⊢
      cases t3 with
      | true =>
        have HE : Hid (RP (.returned (.bool b)) y3) := Lib.hid (by rw [HRP.out]; exact ⟨b, rfl, HF2.out.trans hF3, .inl ⟨a, s4, .paren Hsg1.out Hsg2.out Hpar.out hsg3, Hb.out, hX3⟩⟩)
        clear hX3 hF3 hsg3
        go_wp2_with fail
        exact HE.out
      | false =>
        have hcf := (blk_cells hX3).2.1 2
        have hc2 : y3.cell? ⟨p, 2, none⟩ = some (.bool true) := (blk_cells hX3).1 2
        have HE : Hid (RP (.returned (.bool b)) (y3.setCell ⟨p, 2, none⟩ (.bool false))) := Lib.hid (by rw [HRP.out]; exact ⟨b, rfl, (HF2.out.trans hF3).trans (Fr.setCell [p] y3 ⟨p, 2, none⟩ _ (by simp)), .inr ⟨s4, s4, .open_ Hsg1.out Hsg2.out Hpar.out hsg3, by omega, hX3.fail⟩⟩)
        clear hX3 hF3 hsg3
        go_wp2_with fail
        exact HE.out
    · have htk := takes_any y2 p [41] s' _ false hX2 (by omega) (by simp)
      have HTk := Lib.hid htk
      have HF2 := Lib.hid (HF1.out.trans hF2)
      have Hpar := Lib.hid hpar
      clear hX2 hF2 htk hpar HO1
      go_wp2_with fail
      refine HTk.out.mono ?_
      rintro e y3 ⟨rfl, hX3, hF3⟩
      obtain ⟨t3, s4, hsg3⟩ : ∃ t s4, signP [41] s' = (t, s4) := ⟨_, _, rfl⟩
      have hl3 := (rsign_len hsg3).1
      rw [hsg3] at hX3 ⊢
      simp only at hX3 ⊢
      cases t3 with
      | true =>
        have HE : Hid (RP (.returned (.bool b)) y3) := Lib.hid (by rw [HRP.out]; exact ⟨b, rfl, HF2.out.trans hF3, .inr ⟨r, s4, .inNo Hsg1.out Hsg2.out Hpar.out, by omega, hX3⟩⟩)
        clear hX3 hF3 hsg3
        go_wp2_with fail
        exact HE.out
      | false =>
        have hcf := (blk_cells hX3).2.1 2
        have hc2 : y3.cell? ⟨p, 2, none⟩ = some (.bool false) := (blk_cells hX3).1 2
        have HE : Hid (RP (.returned (.bool b)) (y3.setCell ⟨p, 2, none⟩ (.bool false))) := Lib.hid (by rw [HRP.out]; exact ⟨b, rfl, (HF2.out.trans hF3).trans (Fr.setCell [p] y3 ⟨p, 2, none⟩ _ (by simp)), .inr ⟨r, s4, .inNo Hsg1.out Hsg2.out Hpar.out, by omega, hX3.fail⟩⟩)
        clear hX3 hF3 hsg3
        go_wp2_with fail
        exact HE.out
  | false =>
    have hle2 := hl2.1
    have cw : y1.cell? ⟨p, 0, none⟩ = some (.string (mkS s2)) := (blk_cells hX1).1 0
    have cw1 : y1.cell? ⟨p, 1, none⟩ = some (.slice A T.length cp) := (blk_cells hX1).1 1
    have cw2 : y1.cell? ⟨p, 2, none⟩ = some (.bool true) := (blk_cells hX1).1 2
    have fw : y1.frozen? ⟨p, 0, none⟩ = false := (blk_cells hX1).2.1 0
    have fw2 : y1.frozen? ⟨p, 2, none⟩ = false := (blk_cells hX1).2.1 2
    have hbl := lt_of_heap hX1
    obtain ⟨S, hS⟩ : ∃ S, mkS s2 = S := ⟨_, rfl⟩
    have hSz : S.size = s2.length := by rw [← hS]; simp [mkS, ByteArray.size]
    have hSl : toL S = s2 := by rw [← hS]; rfl
    rw [hS] at cw
    have hSb : S.size ≤ 1048576 := by omega
    have HX1 := Lib.hid hX1
    have HF1 := Lib.hid hF1
    have Hsg2 := Lib.hid hsg2
    have HSl := Lib.hid hSl
    have HSz := Lib.hid hSz
    have HS := Lib.hid hS
    clear hX1 hF1 hsg2 hl2 hS hSl hSz HTk HOr
    go_wp2_with fail
    go_loop [4] (fun iv => TgRel s2 iv) (fun iv => S.size - (intOf iv).toNat)
    case atStart => exact ⟨0, by omega, rfl, fun j hj => by omega⟩
    case round =>
      obtain ⟨k, hk, rfl, hok⟩ := hrel
      have hkr : (0 : Int) ≤ k := by omega
      have Hok := Lib.hid hok
      clear hok
      by_cases hlt : k < s2.length
      · have hkI : (k : Int) < S.size := by rw [HSz.out]; omega
        have hkS : k < S.size := by rw [HSz.out]; exact hlt
        have hsb : S[k] = s2.getD k 0 := by rw [str_byte hkS, HSl.out]
        obtain ⟨q, hq⟩ : ∃ q, q = s2.getD k 0 := ⟨_, rfl⟩
        rw [← hq] at hsb
        obtain ⟨t, ht⟩ : ∃ t, tagB q = t := ⟨_, rfl⟩
        have htb := rtag_any q y1
        rw [ht] at htb
        have HTB := Lib.hid htb
        clear htb
        cases t with
        | true =>
          have HR : Hid (TgRel s2 (.int .i64 ((k : Int) + 1))) := Lib.hid ⟨k + 1, by omega, by go_num, fun j hj => by
            rcases Nat.lt_or_ge j k with h2 | h2
            · exact Hok.out j h2
            · obtain rfl : j = k := by omega
              rw [← hq]; exact ht⟩
          clear hq ht
          go_wp2_with (go_at_call 166; refine HTB.out.mono ?_; rintro e y ⟨rfl, rfl⟩)
          exact ⟨HR.out, by simp [intOf]; omega⟩
        | false =>
          have htw := tw_at (p := tagB) hk Hok.out (by right; rw [← hq]; exact ht)
          clear hq ht
          by_cases hk0 : k = 0
          · have HE : Hid (RP (.returned (.bool false)) (y1.setCell ⟨p, 2, none⟩ (.bool false))) := Lib.hid (by rw [HRP.out]; exact ⟨false, rfl, HF1.out.trans (Fr.setCell [p] y1 ⟨p, 2, none⟩ _ (by simp)), .inr ⟨s2, s2, .noTag Hsg1.out Hsg2.out (by rw [htw.1, hk0]; rfl), by omega, HX1.out.fail⟩⟩)
            have hkz : ((k : Int) == 0) = true := by rw [beq_iff_eq]; omega
            clear htw hk0
            go_wp2_with (go_at_call 166; refine HTB.out.mono ?_; rintro e y ⟨rfl, rfl⟩)
            exact HE.out
          · have hkz : ((k : Int) == 0) = false := by rw [beq_eq_false_iff_ne]; omega
            have hkS : k ≤ S.size := by rw [HSz.out]; exact hk
            have hkSI : (k : Int) ≤ S.size := by omega
            have e1 : S.extract k S.size = mkS (s2.drop k) := by rw [← HS.out, drop_bytes]
            have e2 : S.extract 0 k = mkS (s2.take k) := by rw [← HS.out, take_bytes]
            obtain ⟨z, hz⟩ : ∃ z, y1.setCell ⟨p, 0, none⟩ (.string (S.extract k S.size)) = z := ⟨_, rfl⟩
            have hu : XAt z p (s2.drop k) (.slice A T.length cp) true := by rw [← hz, e1]; exact HX1.out.set _
            have hFz : Fr [p] w z := by rw [← hz]; exact HF1.out.trans (Fr.setCell [p] y1 ⟨p, 0, none⟩ _ (by simp))
            have cz1 : z.cell? ⟨p, 1, none⟩ = some (.slice A T.length cp) := (blk_cells hu).1 1
            have hne : s2.takeWhile tagB ≠ [] := by
              rw [htw.1]
              intro h
              have := congrArg List.length h
              rw [List.length_take, List.length_nil] at this
              omega
            have hpar := Par.tag Hsg1.out Hsg2.out hne
            rw [htw.1, htw.2] at hpar
            have HHas := Lib.hid (has_any z A cp T (S.extract 0 k) (HT.out z hFz) hTl)
            have HE : Hid (RP (.returned (.bool (Lib.containsS T (S.extract 0 k)))) z) := Lib.hid (by
              rw [HRP.out]
              exact ⟨_, rfl, hFz, .inl ⟨.tag (s2.take k), s2.drop k, hpar, by rw [e2]; rfl, hu⟩⟩)
            have HZ := Lib.hid hz
            obtain ⟨BB, hBB⟩ : ∃ B, Lib.containsS T (S.extract 0 k) = B := ⟨_, rfl⟩
            rw [hBB] at HE HHas
            clear htw hk0 e1 e2 hu hFz hne hpar hz hBB
            go_wp2_with (go_at_call 166; refine HTB.out.mono ?_; rintro e y ⟨rfl, rfl⟩)
            rw [HZ.out]
            go_wp2_with fail
            refine HHas.out.mono ?_
            rintro e zz ⟨rfl, hzz⟩
            rw [hzz]
            go_wp2_with fail
            exact HE.out
      · have hkI : ¬ (k : Int) < S.size := by rw [HSz.out]; omega
        have hke : k = s2.length := by omega
        have htw := tw_at (p := tagB) hk Hok.out (by left; exact hke)
        clear hke
        by_cases hk0 : k = 0
        · have HE : Hid (RP (.returned (.bool false)) (y1.setCell ⟨p, 2, none⟩ (.bool false))) := Lib.hid (by rw [HRP.out]; exact ⟨false, rfl, HF1.out.trans (Fr.setCell [p] y1 ⟨p, 2, none⟩ _ (by simp)), .inr ⟨s2, s2, .noTag Hsg1.out Hsg2.out (by rw [htw.1, hk0]; rfl), by omega, HX1.out.fail⟩⟩)
          have hkz : ((k : Int) == 0) = true := by rw [beq_iff_eq]; omega
          clear htw hk0
          go_wp2_with fail
          exact HE.out
        · have hkz : ((k : Int) == 0) = false := by rw [beq_eq_false_iff_ne]; omega
          have hkS : k ≤ S.size := by rw [HSz.out]; exact hk
          have hkSI : (k : Int) ≤ S.size := by omega
          have e1 : S.extract k S.size = mkS (s2.drop k) := by rw [← HS.out, drop_bytes]
          have e2 : S.extract 0 k = mkS (s2.take k) := by rw [← HS.out, take_bytes]
          obtain ⟨z, hz⟩ : ∃ z, y1.setCell ⟨p, 0, none⟩ (.string (S.extract k S.size)) = z := ⟨_, rfl⟩
          have hu : XAt z p (s2.drop k) (.slice A T.length cp) true := by rw [← hz, e1]; exact HX1.out.set _
          have hFz : Fr [p] w z := by rw [← hz]; exact HF1.out.trans (Fr.setCell [p] y1 ⟨p, 0, none⟩ _ (by simp))
          have cz1 : z.cell? ⟨p, 1, none⟩ = some (.slice A T.length cp) := (blk_cells hu).1 1
          have hne : s2.takeWhile tagB ≠ [] := by
            rw [htw.1]
            intro h
            have := congrArg List.length h
            rw [List.length_take, List.length_nil] at this
            omega
          have hpar := Par.tag Hsg1.out Hsg2.out hne
          rw [htw.1, htw.2] at hpar
          have HHas := Lib.hid (has_any z A cp T (S.extract 0 k) (HT.out z hFz) hTl)
          have HE : Hid (RP (.returned (.bool (Lib.containsS T (S.extract 0 k)))) z) := Lib.hid (by
            rw [HRP.out]
            exact ⟨_, rfl, hFz, .inl ⟨.tag (s2.take k), s2.drop k, hpar, by rw [e2]; rfl, hu⟩⟩)
          have HZ := Lib.hid hz
          obtain ⟨BB, hBB⟩ : ∃ B, Lib.containsS T (S.extract 0 k) = B := ⟨_, rfl⟩
          rw [hBB] at HE HHas
          clear htw hk0 e1 e2 hu hFz hne hpar hz hBB
          go_wp2_with fail
          rw [HZ.out]
          go_wp2_with fail
          refine HHas.out.mono ?_
          rintro e zz ⟨rfl, hzz⟩
          rw [hzz]
          go_wp2_with fail
          exact HE.out
end Go.Proofs.YtniphdhbgebedaaGreatDoor
