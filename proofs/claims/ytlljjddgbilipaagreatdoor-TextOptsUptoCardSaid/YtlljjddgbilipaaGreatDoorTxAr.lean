/-
  The reference's Atoi and Number.
-/
import Derived.Test.YtlljjddgbilipaaGreatDoorTxLw
namespace Go.Proofs.YtlljjddgbilipaaGreatDoor
open Go.RowKit

set_option linter.unusedSimpArgs false

attribute [local go_sem] lt1 lt2 lt3 lt4 lt5 lt6

/-- what the document's Atoi hands back -/
def ArPost (w : World) (r : Option Int) (e : Ending) (w' : World) : Prop := w = w' ∧ match r with
  | some n => e = .returned (.tuple #[.int .i64 n, .bool true])
  | none => e = .returned (.tuple #[.int .i64 0, .bool false])
theorem ar_none {w : World} {r : Option Int} (h : r = none) : ArPost w r (.returned (.tuple #[.int .i64 0, .bool false])) w := by subst h; exact ⟨rfl, rfl⟩
theorem ar_some {w : World} {r : Option Int} {n : Int} (h : r = some n) : ArPost w r (.returned (.tuple #[.int .i64 n, .bool true])) w := by subst h; exact ⟨rfl, rfl⟩
def ArRel (L : List UInt8) (nv iv : Value) : Prop := ∃ (i : Nat) (n : Int), i ≤ L.length ∧ iv = .int .i64 (i : Nat) ∧ nv = .int .i64 n ∧ -9223372036854775808 ≤ n ∧ n ≤ 0 ∧ loopR 0 L = loopR n (L.drop i)
theorem loop_end {L : List UInt8} {n : Int} {i : Nat} (h : loopR 0 L = loopR n (L.drop i)) (hi : i = L.length) : loopR 0 L = some n := by
  rw [h, List.drop_eq_nil_of_le (by omega)]
  rfl
theorem atoi_bad {s : List UInt8} (h : badR s) : atoiR s = none := by unfold atoiR; rw [if_pos h]
theorem atoi_loop_none {s : List UInt8} (h : loopR 0 (digR s) = none) : atoiR s = none := by
  unfold atoiR
  split
  · rfl
  · rw [h]
theorem atoi_neg {s : List UInt8} {n : Int} (hb : ¬ badR s) (hn : negR s = true) (h : loopR 0 (digR s) = some n) : atoiR s = some n := by
  unfold atoiR
  rw [if_neg hb, h]
  simp only
  rw [if_pos hn]
theorem atoi_pos {s : List UInt8} {n : Int} (hb : ¬ badR s) (hn : negR s = false) (h : loopR 0 (digR s) = some n) : atoiR s = if n = -9223372036854775808 then none else some (-n) := by
  unfold atoiR
  rw [if_neg hb, h]
  simp only
  rw [if_neg (by rw [hn]; decide)]
set_option maxRecDepth 100000 in
set_option maxHeartbeats 4000000 in
theorem atoi_ref (s : ByteArray) (hl : s.size ≤ 1048576) (w : World) : Calls Tryz.prog 44 #[.string s] w (ArPost w (atoiR (toL s))) := by
  rcases Bool.eq_false_or_eq_true (negR (toL s)) with hn | hn
  · have h2 : 1 < s.size ∧ (toL s).head? = some 45 := by unfold negR at hn; simpa [toL_len] using hn
    have hz : 0 < s.size := by omega
    have hb := str_byte hz
    have h45 : (toL s).getD 0 0 = 45 := by
      have h3 := h2.2
      cases hT : toL s with
      | nil => rw [hT] at h3; cases h3
      | cons c r => rw [hT] at h3; simp at h3 ⊢; exact h3
    rw [h45] at hb
    have hzI : (0 : Int) < s.size := by omega
    have h1I : (1 : Int) < s.size := by omega
    have h1I' : (1 : Int) ≤ s.size := by omega
    have hdl : toL (s.extract 1 s.size) = digR (toL s) := by
      rw [toL_rest]
      unfold digR
      rw [if_pos hn, List.drop_one]
    have Hn := Lib.hid hn
    clear h2 h45 hn
    obtain ⟨L, hL⟩ : ∃ L, L = digR (toL s) := ⟨_, rfl⟩
    rw [← hL] at hdl
    have HL := Lib.hid hL
    have hDS : (s.extract 1 s.size).size = s.size - 1 := (by rw [← toL_len, toL_rest, List.length_drop, toL_len])
    have hds : s.size - 1 = L.length := by rw [← hDS, ← toL_len, hdl]
    have HDS := Lib.hid hDS
    have HDSS := Lib.hid hDS.symm
    clear hDS
    have Hdl := Lib.hid hdl
    have Hds := Lib.hid hds
    clear hL hdl hds
    by_cases hb0 : L = []
    · have e0 : ((s.extract 1 s.size).toList == []) = true := by rw [toList_toL, Hdl.out, hb0]; rfl
      have Hr := Lib.hid (atoi_bad (s := toL s) (.inl (by rw [← HL.out]; exact hb0)))
      clear hb0
      go_enter Tryz.func44, Tryz.ntmps44
      go_wp2_with fail
      go_ret2
      exact ar_none Hr.out
    have e0 : ((s.extract 1 s.size).toList == []) = false := by rw [toList_toL, Hdl.out, beq_eq_false_iff_ne]; exact hb0
    by_cases hb19 : 19 < s.size - 1
    · have hI : (19 : Int) < ((s.size - 1 : Nat) : Int) := by omega
      have Hr := Lib.hid (atoi_bad (s := toL s) (.inr (.inl (by rw [← HL.out, ← Hds.out]; exact hb19))))
      clear hb0
      go_enter Tryz.func44, Tryz.ntmps44
      go_wp2_with fail
      go_ret2
      exact ar_none Hr.out
    have hI : ¬ (19 : Int) < ((s.size - 1 : Nat) : Int) := by omega
    have hd0S : 0 < s.size - 1 := by rw [Hds.out]; exact List.length_pos_iff.2 hb0
    have hd0 : 0 < (s.extract 1 s.size).size := Nat.lt_of_lt_of_eq hd0S HDSS.out
    have hbd := str_byte hd0
    rw [Hdl.out] at hbd
    obtain ⟨c0, hc0⟩ : ∃ c, c = L.getD 0 0 := ⟨_, rfl⟩
    rw [← hc0] at hbd
    have hhd : L.head? = some c0 := by
      cases hT : L with
      | nil => exact absurd hT hb0
      | cons x r => rw [hT] at hc0; simp at hc0 ⊢; exact hc0.symm
    have hd0I : (0 : Int) < ((s.size - 1 : Nat) : Int) := by omega
    by_cases hb48 : 1 < s.size - 1 ∧ c0 = 48
    · have hI1 : (1 : Int) < ((s.size - 1 : Nat) : Int) := by omega
      have Hr := Lib.hid (atoi_bad (s := toL s) (.inr (.inr (.inl (by rw [← HL.out, ← Hds.out, hhd, hb48.2]; exact ⟨hb48.1, rfl⟩)))))
      have h48 := hb48.2
      subst h48
      clear hb0 hhd hc0 hb48
      go_enter Tryz.func44, Tryz.ntmps44
      go_wp2_with fail
      go_ret2
      exact ar_none Hr.out
    have h48b : ((c0.toNat : Int) == 48) = true ∧ ¬ (1 : Int) < ((s.size - 1 : Nat) : Int) ∨ ((c0.toNat : Int) == 48) = false := by
      by_cases h : c0 = 48
      · exact .inl ⟨by rw [h]; rfl, fun h1 => hb48 ⟨by omega, h⟩⟩
      · exact .inr (by rw [beq_eq_false_iff_ne]; intro h2; exact h (UInt8.toNat_inj.1 (by show c0.toNat = 48; omega)))
    by_cases hz48 : L = [48]
    · have Hr := Lib.hid (atoi_bad (s := toL s) (.inr (.inr (.inr ⟨Hn.out, by rw [← HL.out]; exact hz48⟩))))
      have ez : ((s.extract 1 s.size).toList == [48]) = true := by rw [toList_toL, Hdl.out, hz48]; rfl
      have hc48 : c0 = 48 := by rw [hc0, hz48]; rfl
      have h48 : ((c0.toNat : Int) == 48) = true := by rw [hc48]; rfl
      have h1s : ¬ (1 : Int) < ((s.size - 1 : Nat) : Int) := by rw [Hds.out, hz48]; decide
      clear hb0 hhd hc0 hb48 hz48 hc48
      go_enter Tryz.func44, Tryz.ntmps44
      go_wp2_with fail
      go_ret2
      exact ar_none Hr.out
    have ez : ((s.extract 1 s.size).toList == [48]) = false := by rw [toList_toL, Hdl.out, beq_eq_false_iff_ne]; exact hz48
    have Hnb : Hid (¬ badR (toL s)) := Lib.hid (by
      unfold badR
      rw [← HL.out]
      rintro (h | h | h | h)
      · exact hb0 h
      · rw [← Hds.out] at h; exact hb19 h
      · rw [← Hds.out, hhd] at h; exact hb48 ⟨h.1, by simpa using h.2⟩
      · exact hz48 h.2)
    clear hb0 hhd hc0 hb48 hz48
    rcases h48b with ⟨h48, h1s⟩ | h48
    · go_enter Tryz.func44, Tryz.ntmps44
      go_wp2_with fail
      go_loop [6, 7] (fun nv iv => ArRel L nv iv) (fun _ iv => L.length - (intOf iv).toNat)
      case atStart => exact ⟨0, 0, by omega, rfl, rfl, by omega, by omega, rfl⟩
      case round =>
        obtain ⟨i, n, hi, rfl, rfl, hn0, hn1, hlp⟩ := hrel
        have Hlp := Lib.hid hlp
        clear hlp
        have hir : (0 : Int) ≤ i := by omega
        have hDI : s.size - 1 = L.length := Hds.out
        by_cases hlt : i < s.size - 1
        · have hIl : (i : Int) < ((s.size - 1 : Nat) : Int) := by omega
          have hltD : i < (s.extract 1 s.size).size := Nat.lt_of_lt_of_eq hlt HDSS.out
          have hbi := str_byte hltD
          have hd := drop_getD (L := L) (i := i) (by omega)
          rw [Hdl.out] at hbi
          obtain ⟨c, hc⟩ : ∃ c, c = L.getD i 0 := ⟨_, rfl⟩
          rw [← hc] at hbi hd
          have Hd := Lib.hid hd
          have hLl : i < L.length := by omega
          clear hc hd hDI
          by_cases hlo : c.toNat < 48
          · have hloI : (c.toNat : Int) < 48 := by omega
            have Hr := Lib.hid (atoi_loop_none (s := toL s) (by rw [← HL.out, Hlp.out, Hd.out, loopR, if_neg (by rw [isD_iff]; omega)]))
            go_wp2_with fail
            go_ret2
            exact ar_none Hr.out
          have hloI : ¬ (c.toNat : Int) < 48 := by omega
          by_cases hhi : 57 < c.toNat
          · have hhiI : (57 : Int) < c.toNat := by omega
            have Hr := Lib.hid (atoi_loop_none (s := toL s) (by rw [← HL.out, Hlp.out, Hd.out, loopR, if_neg (by rw [isD_iff]; omega)]))
            go_wp2_with fail
            go_ret2
            exact ar_none Hr.out
          have hhiI : ¬ (57 : Int) < c.toNat := by omega
          have hdg : isD c = true := isD_iff.2 (by omega)
          obtain ⟨v, hv⟩ : ∃ v, v = dval c := ⟨_, rfl⟩
          have hv9 : v ≤ 9 := by rw [hv]; unfold dval; omega
          have hcv : (c.toNat : Int) = 48 + v := by rw [hv]; unfold dval; omega
          have r1 : IntKind.u8.wrap ((48 + (v : Int)) - 48) = v := by rw [show (48 + (v : Int)) - 48 = v by omega]; exact wrap_u8 (by omega) (by omega)
          have hstep : loopR n (L.drop i) = if n < Int.tdiv (-9223372036854775808 + (v : Nat)) 10 then none else loopR (10 * n - (v : Nat)) (L.drop (i + 1)) := by rw [Hd.out, loopR, if_pos hdg, hv]
          have hq : Int.tdiv (-9223372036854775808 + (v : Nat)) 10 = -(((9223372036854775808 - v : Nat) / 10 : Nat) : Int) := by
            rw [show (-9223372036854775808 + ((v : Nat) : Int)) = -(((9223372036854775808 - v : Nat)) : Int) by omega, Int.neg_tdiv]
            rfl
          obtain ⟨q, hqq⟩ : ∃ q : Int, q = -(((9223372036854775808 - v : Nat) / 10 : Nat) : Int) := ⟨_, rfl⟩
          rw [← hqq] at hq
          rw [hq] at hstep
          have hq10 : -9223372036854775808 + (v : Int) ≤ 10 * q := by omega
          have hq0 : q ≤ 0 := by omega
          have hqm : -922337203685477580 ≤ q := by omega
          have Hstep := Lib.hid hstep
          clear hstep hv hqq
          have r2 : -9223372036854775808 + (v : Int) = (v : Int) + -9223372036854775808 := by omega
          clear r2
          by_cases hnq : n < q
          · have Hr := Lib.hid (atoi_loop_none (s := toL s) (by rw [← HL.out, Hlp.out, Hstep.out, if_pos hnq]))
            go_wp2_with fail
            go_ret2
            exact ar_none Hr.out
          · have Hfin : Hid (ArRel L (.int .i64 (10 * n - v)) (.int .i64 ((i : Int) + 1))) := Lib.hid ⟨i + 1, 10 * n - v, by omega, rfl, rfl, by omega, by omega, by rw [Hlp.out, Hstep.out, if_neg hnq]⟩
            go_wp2_with fail
            exact ⟨Hfin.out, by simp [intOf]; omega⟩
        · have hIl : ¬ (i : Int) < ((s.size - 1 : Nat) : Int) := by omega
          have Hend := Lib.hid (loop_end Hlp.out (by omega))
          have Hr := Lib.hid (atoi_neg Hnb.out Hn.out (by rw [← HL.out]; exact Hend.out))
          go_wp2_with fail
          go_ret2
          exact ar_some Hr.out
    by_cases h1s : (1 : Int) < ((s.size - 1 : Nat) : Int)
    · go_enter Tryz.func44, Tryz.ntmps44
      go_wp2_with fail
      go_loop [6, 7] (fun nv iv => ArRel L nv iv) (fun _ iv => L.length - (intOf iv).toNat)
      case atStart => exact ⟨0, 0, by omega, rfl, rfl, by omega, by omega, rfl⟩
      case round =>
        obtain ⟨i, n, hi, rfl, rfl, hn0, hn1, hlp⟩ := hrel
        have Hlp := Lib.hid hlp
        clear hlp
        have hir : (0 : Int) ≤ i := by omega
        have hDI : s.size - 1 = L.length := Hds.out
        by_cases hlt : i < s.size - 1
        · have hIl : (i : Int) < ((s.size - 1 : Nat) : Int) := by omega
          have hltD : i < (s.extract 1 s.size).size := Nat.lt_of_lt_of_eq hlt HDSS.out
          have hbi := str_byte hltD
          have hd := drop_getD (L := L) (i := i) (by omega)
          rw [Hdl.out] at hbi
          obtain ⟨c, hc⟩ : ∃ c, c = L.getD i 0 := ⟨_, rfl⟩
          rw [← hc] at hbi hd
          have Hd := Lib.hid hd
          have hLl : i < L.length := by omega
          clear hc hd hDI
          by_cases hlo : c.toNat < 48
          · have hloI : (c.toNat : Int) < 48 := by omega
            have Hr := Lib.hid (atoi_loop_none (s := toL s) (by rw [← HL.out, Hlp.out, Hd.out, loopR, if_neg (by rw [isD_iff]; omega)]))
            go_wp2_with fail
            go_ret2
            exact ar_none Hr.out
          have hloI : ¬ (c.toNat : Int) < 48 := by omega
          by_cases hhi : 57 < c.toNat
          · have hhiI : (57 : Int) < c.toNat := by omega
            have Hr := Lib.hid (atoi_loop_none (s := toL s) (by rw [← HL.out, Hlp.out, Hd.out, loopR, if_neg (by rw [isD_iff]; omega)]))
            go_wp2_with fail
            go_ret2
            exact ar_none Hr.out
          have hhiI : ¬ (57 : Int) < c.toNat := by omega
          have hdg : isD c = true := isD_iff.2 (by omega)
          obtain ⟨v, hv⟩ : ∃ v, v = dval c := ⟨_, rfl⟩
          have hv9 : v ≤ 9 := by rw [hv]; unfold dval; omega
          have hcv : (c.toNat : Int) = 48 + v := by rw [hv]; unfold dval; omega
          have r1 : IntKind.u8.wrap ((48 + (v : Int)) - 48) = v := by rw [show (48 + (v : Int)) - 48 = v by omega]; exact wrap_u8 (by omega) (by omega)
          have hstep : loopR n (L.drop i) = if n < Int.tdiv (-9223372036854775808 + (v : Nat)) 10 then none else loopR (10 * n - (v : Nat)) (L.drop (i + 1)) := by rw [Hd.out, loopR, if_pos hdg, hv]
          have hq : Int.tdiv (-9223372036854775808 + (v : Nat)) 10 = -(((9223372036854775808 - v : Nat) / 10 : Nat) : Int) := by
            rw [show (-9223372036854775808 + ((v : Nat) : Int)) = -(((9223372036854775808 - v : Nat)) : Int) by omega, Int.neg_tdiv]
            rfl
          obtain ⟨q, hqq⟩ : ∃ q : Int, q = -(((9223372036854775808 - v : Nat) / 10 : Nat) : Int) := ⟨_, rfl⟩
          rw [← hqq] at hq
          rw [hq] at hstep
          have hq10 : -9223372036854775808 + (v : Int) ≤ 10 * q := by omega
          have hq0 : q ≤ 0 := by omega
          have hqm : -922337203685477580 ≤ q := by omega
          have Hstep := Lib.hid hstep
          clear hstep hv hqq
          have r2 : -9223372036854775808 + (v : Int) = (v : Int) + -9223372036854775808 := by omega
          clear r2
          by_cases hnq : n < q
          · have Hr := Lib.hid (atoi_loop_none (s := toL s) (by rw [← HL.out, Hlp.out, Hstep.out, if_pos hnq]))
            go_wp2_with fail
            go_ret2
            exact ar_none Hr.out
          · have Hfin : Hid (ArRel L (.int .i64 (10 * n - v)) (.int .i64 ((i : Int) + 1))) := Lib.hid ⟨i + 1, 10 * n - v, by omega, rfl, rfl, by omega, by omega, by rw [Hlp.out, Hstep.out, if_neg hnq]⟩
            go_wp2_with fail
            exact ⟨Hfin.out, by simp [intOf]; omega⟩
        · have hIl : ¬ (i : Int) < ((s.size - 1 : Nat) : Int) := by omega
          have Hend := Lib.hid (loop_end Hlp.out (by omega))
          have Hr := Lib.hid (atoi_neg Hnb.out Hn.out (by rw [← HL.out]; exact Hend.out))
          go_wp2_with fail
          go_ret2
          exact ar_some Hr.out
    · go_enter Tryz.func44, Tryz.ntmps44
      go_wp2_with fail
      go_loop [6, 7] (fun nv iv => ArRel L nv iv) (fun _ iv => L.length - (intOf iv).toNat)
      case atStart => exact ⟨0, 0, by omega, rfl, rfl, by omega, by omega, rfl⟩
      case round =>
        obtain ⟨i, n, hi, rfl, rfl, hn0, hn1, hlp⟩ := hrel
        have Hlp := Lib.hid hlp
        clear hlp
        have hir : (0 : Int) ≤ i := by omega
        have hDI : s.size - 1 = L.length := Hds.out
        by_cases hlt : i < s.size - 1
        · have hIl : (i : Int) < ((s.size - 1 : Nat) : Int) := by omega
          have hltD : i < (s.extract 1 s.size).size := Nat.lt_of_lt_of_eq hlt HDSS.out
          have hbi := str_byte hltD
          have hd := drop_getD (L := L) (i := i) (by omega)
          rw [Hdl.out] at hbi
          obtain ⟨c, hc⟩ : ∃ c, c = L.getD i 0 := ⟨_, rfl⟩
          rw [← hc] at hbi hd
          have Hd := Lib.hid hd
          have hLl : i < L.length := by omega
          clear hc hd hDI
          by_cases hlo : c.toNat < 48
          · have hloI : (c.toNat : Int) < 48 := by omega
            have Hr := Lib.hid (atoi_loop_none (s := toL s) (by rw [← HL.out, Hlp.out, Hd.out, loopR, if_neg (by rw [isD_iff]; omega)]))
            go_wp2_with fail
            go_ret2
            exact ar_none Hr.out
          have hloI : ¬ (c.toNat : Int) < 48 := by omega
          by_cases hhi : 57 < c.toNat
          · have hhiI : (57 : Int) < c.toNat := by omega
            have Hr := Lib.hid (atoi_loop_none (s := toL s) (by rw [← HL.out, Hlp.out, Hd.out, loopR, if_neg (by rw [isD_iff]; omega)]))
            go_wp2_with fail
            go_ret2
            exact ar_none Hr.out
          have hhiI : ¬ (57 : Int) < c.toNat := by omega
          have hdg : isD c = true := isD_iff.2 (by omega)
          obtain ⟨v, hv⟩ : ∃ v, v = dval c := ⟨_, rfl⟩
          have hv9 : v ≤ 9 := by rw [hv]; unfold dval; omega
          have hcv : (c.toNat : Int) = 48 + v := by rw [hv]; unfold dval; omega
          have r1 : IntKind.u8.wrap ((48 + (v : Int)) - 48) = v := by rw [show (48 + (v : Int)) - 48 = v by omega]; exact wrap_u8 (by omega) (by omega)
          have hstep : loopR n (L.drop i) = if n < Int.tdiv (-9223372036854775808 + (v : Nat)) 10 then none else loopR (10 * n - (v : Nat)) (L.drop (i + 1)) := by rw [Hd.out, loopR, if_pos hdg, hv]
          have hq : Int.tdiv (-9223372036854775808 + (v : Nat)) 10 = -(((9223372036854775808 - v : Nat) / 10 : Nat) : Int) := by
            rw [show (-9223372036854775808 + ((v : Nat) : Int)) = -(((9223372036854775808 - v : Nat)) : Int) by omega, Int.neg_tdiv]
            rfl
          obtain ⟨q, hqq⟩ : ∃ q : Int, q = -(((9223372036854775808 - v : Nat) / 10 : Nat) : Int) := ⟨_, rfl⟩
          rw [← hqq] at hq
          rw [hq] at hstep
          have hq10 : -9223372036854775808 + (v : Int) ≤ 10 * q := by omega
          have hq0 : q ≤ 0 := by omega
          have hqm : -922337203685477580 ≤ q := by omega
          have Hstep := Lib.hid hstep
          clear hstep hv hqq
          have r2 : -9223372036854775808 + (v : Int) = (v : Int) + -9223372036854775808 := by omega
          clear r2
          by_cases hnq : n < q
          · have Hr := Lib.hid (atoi_loop_none (s := toL s) (by rw [← HL.out, Hlp.out, Hstep.out, if_pos hnq]))
            go_wp2_with fail
            go_ret2
            exact ar_none Hr.out
          · have Hfin : Hid (ArRel L (.int .i64 (10 * n - v)) (.int .i64 ((i : Int) + 1))) := Lib.hid ⟨i + 1, 10 * n - v, by omega, rfl, rfl, by omega, by omega, by rw [Hlp.out, Hstep.out, if_neg hnq]⟩
            go_wp2_with fail
            exact ⟨Hfin.out, by simp [intOf]; omega⟩
        · have hIl : ¬ (i : Int) < ((s.size - 1 : Nat) : Int) := by omega
          have Hend := Lib.hid (loop_end Hlp.out (by omega))
          have Hr := Lib.hid (atoi_neg Hnb.out Hn.out (by rw [← HL.out]; exact Hend.out))
          go_wp2_with fail
          go_ret2
          exact ar_some Hr.out
  · have hnn : ¬ (1 < s.size ∧ (toL s).head? = some 45) := by
      intro h
      have : negR (toL s) = true := by unfold negR; simpa [toL_len] using h
      rw [hn] at this
      cases this
    have hdl : toL s = digR (toL s) := by
      unfold digR
      rw [if_neg (by rw [hn]; decide)]
    have Hn := Lib.hid hn
    by_cases h1 : 1 < s.size
    · have hz : 0 < s.size := by omega
      have hb := str_byte hz
      obtain ⟨c, hc⟩ : ∃ c, c = (toL s).getD 0 0 := ⟨_, rfl⟩
      rw [← hc] at hb
      have hc45 : c ≠ 45 := fun e => hnn ⟨h1, by
        rw [e] at hc
        cases hT : toL s with
        | nil => have := congrArg List.length hT; rw [toL_len] at this; simp only [List.length_nil] at this; omega
        | cons x r => rw [hT] at hc; simp at hc ⊢; exact hc.symm⟩
      have n45 : ((c.toNat : Int) == 45) = false := by rw [beq_eq_false_iff_ne]; intro h; exact hc45 (UInt8.toNat_inj.1 (by show c.toNat = 45; omega))
      have hzI : (0 : Int) < s.size := by omega
      have h1I : (1 : Int) < s.size := by omega
      have Hc := Lib.hid hc
      clear hn hnn hc45 hc
      obtain ⟨L, hL⟩ : ∃ L, L = digR (toL s) := ⟨_, rfl⟩
      rw [← hL] at hdl
      have HL := Lib.hid hL
      have hDS : (s).size = s.size := rfl
      have hds : s.size = L.length := by rw [← hDS, ← toL_len, hdl]
      have HDS := Lib.hid hDS
      have HDSS := Lib.hid hDS.symm
      clear hDS
      have Hdl := Lib.hid hdl
      have Hds := Lib.hid hds
      clear hL hdl hds
      by_cases hb0 : L = []
      · have e0 : ((s).toList == []) = true := by rw [toList_toL, Hdl.out, hb0]; rfl
        have Hr := Lib.hid (atoi_bad (s := toL s) (.inl (by rw [← HL.out]; exact hb0)))
        clear hb0
        go_enter Tryz.func44, Tryz.ntmps44
        go_wp2_with fail
        go_ret2
        exact ar_none Hr.out
      have e0 : ((s).toList == []) = false := by rw [toList_toL, Hdl.out, beq_eq_false_iff_ne]; exact hb0
      by_cases hb19 : 19 < s.size
      · have hI : (19 : Int) < ((s.size : Nat) : Int) := by omega
        have Hr := Lib.hid (atoi_bad (s := toL s) (.inr (.inl (by rw [← HL.out, ← Hds.out]; exact hb19))))
        clear hb0
        go_enter Tryz.func44, Tryz.ntmps44
        go_wp2_with fail
        go_ret2
        exact ar_none Hr.out
      have hI : ¬ (19 : Int) < ((s.size : Nat) : Int) := by omega
      have hd0S : 0 < s.size := by rw [Hds.out]; exact List.length_pos_iff.2 hb0
      have hd0 : 0 < (s).size := Nat.lt_of_lt_of_eq hd0S HDSS.out
      have hbd := str_byte hd0
      rw [Hdl.out] at hbd
      obtain ⟨c0, hc0⟩ : ∃ c, c = L.getD 0 0 := ⟨_, rfl⟩
      rw [← hc0] at hbd
      have hcc : c = c0 := by rw [hc0, ← Hdl.out]; exact Hc.out
      obtain rfl := hcc.symm
      have hhd : L.head? = some c0 := by
        cases hT : L with
        | nil => exact absurd hT hb0
        | cons x r => rw [hT] at hc0; simp at hc0 ⊢; exact hc0.symm
      have hd0I : (0 : Int) < ((s.size : Nat) : Int) := by omega
      by_cases hb48 : 1 < s.size ∧ c0 = 48
      · have hI1 : (1 : Int) < ((s.size : Nat) : Int) := by omega
        have Hr := Lib.hid (atoi_bad (s := toL s) (.inr (.inr (.inl (by rw [← HL.out, ← Hds.out, hhd, hb48.2]; exact ⟨hb48.1, rfl⟩)))))
        have h48 := hb48.2
        subst h48
        clear hb0 hhd hc0 hb48
        go_enter Tryz.func44, Tryz.ntmps44
        go_wp2_with fail
        go_ret2
        exact ar_none Hr.out
      have h48b : ((c0.toNat : Int) == 48) = true ∧ ¬ (1 : Int) < ((s.size : Nat) : Int) ∨ ((c0.toNat : Int) == 48) = false := by
        by_cases h : c0 = 48
        · exact .inl ⟨by rw [h]; rfl, fun h1 => hb48 ⟨by omega, h⟩⟩
        · exact .inr (by rw [beq_eq_false_iff_ne]; intro h2; exact h (UInt8.toNat_inj.1 (by show c0.toNat = 48; omega)))
      have Hnb : Hid (¬ badR (toL s)) := Lib.hid (by
        unfold badR
        rw [← HL.out]
        rintro (h | h | h | h)
        · exact hb0 h
        · rw [← Hds.out] at h; exact hb19 h
        · rw [← Hds.out, hhd] at h; exact hb48 ⟨h.1, by simpa using h.2⟩
        · rw [Hn.out] at h; exact absurd h.1 (by decide))
      clear hb0 hhd hc0 hb48
      rcases h48b with ⟨h48, h1s⟩ | h48
      · exact absurd h1I h1s
      go_enter Tryz.func44, Tryz.ntmps44
      go_wp2_with fail
      go_loop [6, 7] (fun nv iv => ArRel L nv iv) (fun _ iv => L.length - (intOf iv).toNat)
      case atStart => exact ⟨0, 0, by omega, rfl, rfl, by omega, by omega, rfl⟩
      case round =>
        obtain ⟨i, n, hi, rfl, rfl, hn0, hn1, hlp⟩ := hrel
        have Hlp := Lib.hid hlp
        clear hlp
        have hir : (0 : Int) ≤ i := by omega
        have hDI : s.size = L.length := Hds.out
        by_cases hlt : i < s.size
        · have hIl : (i : Int) < ((s.size : Nat) : Int) := by omega
          have hltD : i < (s).size := hlt
          have hbi := str_byte hltD
          have hd := drop_getD (L := L) (i := i) (by omega)
          rw [Hdl.out] at hbi
          obtain ⟨c, hc⟩ : ∃ c, c = L.getD i 0 := ⟨_, rfl⟩
          rw [← hc] at hbi hd
          have Hd := Lib.hid hd
          have hLl : i < L.length := by omega
          clear hc hd hDI
          by_cases hlo : c.toNat < 48
          · have hloI : (c.toNat : Int) < 48 := by omega
            have Hr := Lib.hid (atoi_loop_none (s := toL s) (by rw [← HL.out, Hlp.out, Hd.out, loopR, if_neg (by rw [isD_iff]; omega)]))
            go_wp2_with fail
            go_ret2
            exact ar_none Hr.out
          have hloI : ¬ (c.toNat : Int) < 48 := by omega
          by_cases hhi : 57 < c.toNat
          · have hhiI : (57 : Int) < c.toNat := by omega
            have Hr := Lib.hid (atoi_loop_none (s := toL s) (by rw [← HL.out, Hlp.out, Hd.out, loopR, if_neg (by rw [isD_iff]; omega)]))
            go_wp2_with fail
            go_ret2
            exact ar_none Hr.out
          have hhiI : ¬ (57 : Int) < c.toNat := by omega
          have hdg : isD c = true := isD_iff.2 (by omega)
          obtain ⟨v, hv⟩ : ∃ v, v = dval c := ⟨_, rfl⟩
          have hv9 : v ≤ 9 := by rw [hv]; unfold dval; omega
          have hcv : (c.toNat : Int) = 48 + v := by rw [hv]; unfold dval; omega
          have r1 : IntKind.u8.wrap ((48 + (v : Int)) - 48) = v := by rw [show (48 + (v : Int)) - 48 = v by omega]; exact wrap_u8 (by omega) (by omega)
          have hstep : loopR n (L.drop i) = if n < Int.tdiv (-9223372036854775808 + (v : Nat)) 10 then none else loopR (10 * n - (v : Nat)) (L.drop (i + 1)) := by rw [Hd.out, loopR, if_pos hdg, hv]
          have hq : Int.tdiv (-9223372036854775808 + (v : Nat)) 10 = -(((9223372036854775808 - v : Nat) / 10 : Nat) : Int) := by
            rw [show (-9223372036854775808 + ((v : Nat) : Int)) = -(((9223372036854775808 - v : Nat)) : Int) by omega, Int.neg_tdiv]
            rfl
          obtain ⟨q, hqq⟩ : ∃ q : Int, q = -(((9223372036854775808 - v : Nat) / 10 : Nat) : Int) := ⟨_, rfl⟩
          rw [← hqq] at hq
          rw [hq] at hstep
          have hq10 : -9223372036854775808 + (v : Int) ≤ 10 * q := by omega
          have hq0 : q ≤ 0 := by omega
          have hqm : -922337203685477580 ≤ q := by omega
          have Hstep := Lib.hid hstep
          clear hstep hv hqq
          have r2 : -9223372036854775808 + (v : Int) = (v : Int) + -9223372036854775808 := by omega
          clear r2
          by_cases hnq : n < q
          · have Hr := Lib.hid (atoi_loop_none (s := toL s) (by rw [← HL.out, Hlp.out, Hstep.out, if_pos hnq]))
            go_wp2_with fail
            go_ret2
            exact ar_none Hr.out
          · have Hfin : Hid (ArRel L (.int .i64 (10 * n - v)) (.int .i64 ((i : Int) + 1))) := Lib.hid ⟨i + 1, 10 * n - v, by omega, rfl, rfl, by omega, by omega, by rw [Hlp.out, Hstep.out, if_neg hnq]⟩
            go_wp2_with fail
            exact ⟨Hfin.out, by simp [intOf]; omega⟩
        · have hIl : ¬ (i : Int) < ((s.size : Nat) : Int) := by omega
          have Hend := Lib.hid (loop_end Hlp.out (by omega))
          have hr := atoi_pos Hnb.out Hn.out (by rw [← HL.out]; exact Hend.out)
          by_cases hm : n = -9223372036854775808
          · rw [if_pos hm] at hr
            have Hr := Lib.hid hr
            have hmb : (n == -9223372036854775808) = true := by rw [hm]; rfl
            clear hr hm
            go_wp2_with fail
            go_ret2
            exact ar_none Hr.out
          · rw [if_neg hm] at hr
            have Hr := Lib.hid hr
            have hmb : (n == -9223372036854775808) = false := beq_eq_false_iff_ne.2 hm
            have hnn : IntKind.i64.wrap (-n) = -n := IntWalk.i64_in _ (by omega)
            clear hr
            go_wp2_with fail
            go_ret2
            exact ar_some Hr.out
    · have h1I : ¬ (1 : Int) < s.size := by omega
      clear hn hnn
      obtain ⟨L, hL⟩ : ∃ L, L = digR (toL s) := ⟨_, rfl⟩
      rw [← hL] at hdl
      have HL := Lib.hid hL
      have hDS : (s).size = s.size := rfl
      have hds : s.size = L.length := by rw [← hDS, ← toL_len, hdl]
      have HDS := Lib.hid hDS
      have HDSS := Lib.hid hDS.symm
      clear hDS
      have Hdl := Lib.hid hdl
      have Hds := Lib.hid hds
      clear hL hdl hds
      by_cases hb0 : L = []
      · have e0 : ((s).toList == []) = true := by rw [toList_toL, Hdl.out, hb0]; rfl
        have Hr := Lib.hid (atoi_bad (s := toL s) (.inl (by rw [← HL.out]; exact hb0)))
        clear hb0
        go_enter Tryz.func44, Tryz.ntmps44
        go_wp2_with fail
        go_ret2
        exact ar_none Hr.out
      have e0 : ((s).toList == []) = false := by rw [toList_toL, Hdl.out, beq_eq_false_iff_ne]; exact hb0
      by_cases hb19 : 19 < s.size
      · have hI : (19 : Int) < ((s.size : Nat) : Int) := by omega
        have Hr := Lib.hid (atoi_bad (s := toL s) (.inr (.inl (by rw [← HL.out, ← Hds.out]; exact hb19))))
        clear hb0
        go_enter Tryz.func44, Tryz.ntmps44
        go_wp2_with fail
        go_ret2
        exact ar_none Hr.out
      have hI : ¬ (19 : Int) < ((s.size : Nat) : Int) := by omega
      have hd0S : 0 < s.size := by rw [Hds.out]; exact List.length_pos_iff.2 hb0
      have hd0 : 0 < (s).size := Nat.lt_of_lt_of_eq hd0S HDSS.out
      have hbd := str_byte hd0
      rw [Hdl.out] at hbd
      obtain ⟨c0, hc0⟩ : ∃ c, c = L.getD 0 0 := ⟨_, rfl⟩
      rw [← hc0] at hbd
      have hhd : L.head? = some c0 := by
        cases hT : L with
        | nil => exact absurd hT hb0
        | cons x r => rw [hT] at hc0; simp at hc0 ⊢; exact hc0.symm
      have hd0I : (0 : Int) < ((s.size : Nat) : Int) := by omega
      by_cases hb48 : 1 < s.size ∧ c0 = 48
      · exact absurd hb48.1 h1
      have h48b : ((c0.toNat : Int) == 48) = true ∧ ¬ (1 : Int) < ((s.size : Nat) : Int) ∨ ((c0.toNat : Int) == 48) = false := by
        by_cases h : c0 = 48
        · exact .inl ⟨by rw [h]; rfl, fun h1 => hb48 ⟨by omega, h⟩⟩
        · exact .inr (by rw [beq_eq_false_iff_ne]; intro h2; exact h (UInt8.toNat_inj.1 (by show c0.toNat = 48; omega)))
      have Hnb : Hid (¬ badR (toL s)) := Lib.hid (by
        unfold badR
        rw [← HL.out]
        rintro (h | h | h | h)
        · exact hb0 h
        · rw [← Hds.out] at h; exact hb19 h
        · rw [← Hds.out, hhd] at h; exact hb48 ⟨h.1, by simpa using h.2⟩
        · rw [Hn.out] at h; exact absurd h.1 (by decide))
      clear hb0 hhd hc0 hb48
      go_enter Tryz.func44, Tryz.ntmps44
      go_wp2_with fail
      go_loop [6, 7] (fun nv iv => ArRel L nv iv) (fun _ iv => L.length - (intOf iv).toNat)
      case atStart => exact ⟨0, 0, by omega, rfl, rfl, by omega, by omega, rfl⟩
      case round =>
        obtain ⟨i, n, hi, rfl, rfl, hn0, hn1, hlp⟩ := hrel
        have Hlp := Lib.hid hlp
        clear hlp
        have hir : (0 : Int) ≤ i := by omega
        have hDI : s.size = L.length := Hds.out
        by_cases hlt : i < s.size
        · have hIl : (i : Int) < ((s.size : Nat) : Int) := by omega
          have hltD : i < (s).size := hlt
          have hbi := str_byte hltD
          have hd := drop_getD (L := L) (i := i) (by omega)
          rw [Hdl.out] at hbi
          obtain ⟨c, hc⟩ : ∃ c, c = L.getD i 0 := ⟨_, rfl⟩
          rw [← hc] at hbi hd
          have Hd := Lib.hid hd
          have hLl : i < L.length := by omega
          clear hc hd hDI
          by_cases hlo : c.toNat < 48
          · have hloI : (c.toNat : Int) < 48 := by omega
            have Hr := Lib.hid (atoi_loop_none (s := toL s) (by rw [← HL.out, Hlp.out, Hd.out, loopR, if_neg (by rw [isD_iff]; omega)]))
            go_wp2_with fail
            go_ret2
            exact ar_none Hr.out
          have hloI : ¬ (c.toNat : Int) < 48 := by omega
          by_cases hhi : 57 < c.toNat
          · have hhiI : (57 : Int) < c.toNat := by omega
            have Hr := Lib.hid (atoi_loop_none (s := toL s) (by rw [← HL.out, Hlp.out, Hd.out, loopR, if_neg (by rw [isD_iff]; omega)]))
            go_wp2_with fail
            go_ret2
            exact ar_none Hr.out
          have hhiI : ¬ (57 : Int) < c.toNat := by omega
          have hdg : isD c = true := isD_iff.2 (by omega)
          obtain ⟨v, hv⟩ : ∃ v, v = dval c := ⟨_, rfl⟩
          have hv9 : v ≤ 9 := by rw [hv]; unfold dval; omega
          have hcv : (c.toNat : Int) = 48 + v := by rw [hv]; unfold dval; omega
          have r1 : IntKind.u8.wrap ((48 + (v : Int)) - 48) = v := by rw [show (48 + (v : Int)) - 48 = v by omega]; exact wrap_u8 (by omega) (by omega)
          have hstep : loopR n (L.drop i) = if n < Int.tdiv (-9223372036854775808 + (v : Nat)) 10 then none else loopR (10 * n - (v : Nat)) (L.drop (i + 1)) := by rw [Hd.out, loopR, if_pos hdg, hv]
          have hq : Int.tdiv (-9223372036854775808 + (v : Nat)) 10 = -(((9223372036854775808 - v : Nat) / 10 : Nat) : Int) := by
            rw [show (-9223372036854775808 + ((v : Nat) : Int)) = -(((9223372036854775808 - v : Nat)) : Int) by omega, Int.neg_tdiv]
            rfl
          obtain ⟨q, hqq⟩ : ∃ q : Int, q = -(((9223372036854775808 - v : Nat) / 10 : Nat) : Int) := ⟨_, rfl⟩
          rw [← hqq] at hq
          rw [hq] at hstep
          have hq10 : -9223372036854775808 + (v : Int) ≤ 10 * q := by omega
          have hq0 : q ≤ 0 := by omega
          have hqm : -922337203685477580 ≤ q := by omega
          have Hstep := Lib.hid hstep
          clear hstep hv hqq
          have r2 : -9223372036854775808 + (v : Int) = (v : Int) + -9223372036854775808 := by omega
          clear r2
          by_cases hnq : n < q
          · have Hr := Lib.hid (atoi_loop_none (s := toL s) (by rw [← HL.out, Hlp.out, Hstep.out, if_pos hnq]))
            go_wp2_with fail
            go_ret2
            exact ar_none Hr.out
          · have Hfin : Hid (ArRel L (.int .i64 (10 * n - v)) (.int .i64 ((i : Int) + 1))) := Lib.hid ⟨i + 1, 10 * n - v, by omega, rfl, rfl, by omega, by omega, by rw [Hlp.out, Hstep.out, if_neg hnq]⟩
            go_wp2_with fail
            exact ⟨Hfin.out, by simp [intOf]; omega⟩
        · have hIl : ¬ (i : Int) < ((s.size : Nat) : Int) := by omega
          have Hend := Lib.hid (loop_end Hlp.out (by omega))
          have hr := atoi_pos Hnb.out Hn.out (by rw [← HL.out]; exact Hend.out)
          by_cases hm : n = -9223372036854775808
          · rw [if_pos hm] at hr
            have Hr := Lib.hid hr
            have hmb : (n == -9223372036854775808) = true := by rw [hm]; rfl
            clear hr hm
            go_wp2_with fail
            go_ret2
            exact ar_none Hr.out
          · rw [if_neg hm] at hr
            have Hr := Lib.hid hr
            have hmb : (n == -9223372036854775808) = false := beq_eq_false_iff_ne.2 hm
            have hnn : IntKind.i64.wrap (-n) = -n := IntWalk.i64_in _ (by omega)
            clear hr
            go_wp2_with fail
            go_ret2
            exact ar_some Hr.out
def NrPost (w : World) (s : ByteArray) (e : Ending) (w' : World) : Prop := w = w' ∧ ∃ (n : Int) (b : Bool), e = .returned (.tuple #[.int .i64 n, .bool b]) ∧ numP (toL s) = if b = true then some n else none
theorem number_ref (s : ByteArray) (hl : s.size ≤ 1048576) (w : World) : Calls Tryz.prog 20 #[.string s] w (NrPost w s) := by
  go_enter Tryz.func20, Tryz.ntmps20
  go_wp2_with fail
  refine (atoi_ref s hl w).mono ?_
  rintro e w1 ⟨hw, he⟩
  obtain rfl := hw.symm
  cases ha : atoiR (toL s) with
  | none =>
    rw [ha] at he
    simp only at he
    subst he
    have Hn : Hid (numP (toL s) = none) := Lib.hid (by rw [← numR_eq]; unfold numR; rw [ha])
    clear ha
    go_wp2_with fail
    go_ret2
    exact ⟨rfl, 0, false, rfl, Hn.out⟩
  | some n =>
    rw [ha] at he
    simp only at he
    subst he
    have Hn : Hid (numP (toL s) = if 4611686018427387904 < n ∨ n < -4611686018427387904 then none else some n) := Lib.hid (by rw [← numR_eq]; unfold numR; rw [ha])
    clear ha
    by_cases h1 : 4611686018427387904 < n
    · have Hr : Hid (numP (toL s) = none) := Lib.hid (by rw [Hn.out, if_pos (.inl h1)])
      go_wp2_with fail
      go_ret2
      exact ⟨rfl, 0, false, rfl, Hr.out⟩
    · by_cases h2 : n < -4611686018427387904
      · have Hr : Hid (numP (toL s) = none) := Lib.hid (by rw [Hn.out, if_pos (.inr h2)])
        go_wp2_with fail
        go_ret2
        exact ⟨rfl, 0, false, rfl, Hr.out⟩
      · have Hr : Hid (numP (toL s) = some n) := Lib.hid (by rw [Hn.out, if_neg (by omega)])
        go_wp2_with fail
        go_ret2
        exact ⟨rfl, n, true, rfl, Hr.out⟩
end Go.Proofs.YtlljjddgbilipaaGreatDoor
