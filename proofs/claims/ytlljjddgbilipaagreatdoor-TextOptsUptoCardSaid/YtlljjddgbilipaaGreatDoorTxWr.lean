/-
  The reference's Word.
-/
import Derived.Test.YtlljjddgbilipaaGreatDoorTxQr
namespace Go.Proofs.YtlljjddgbilipaaGreatDoor
open Go.RowKit

set_option linter.unusedSimpArgs false

attribute [local go_sem] lt1 lt2 lt3 lt4 lt5 lt6

def WrRel (l : List UInt8) (v : Value) : Prop := ∃ k, k ≤ l.length ∧ v = .int .i64 (k : Nat) ∧ ∀ j, j < k → bareB (l.getD j 0) = true
theorem all_at {q : UInt8 → Bool} : ∀ {l : List UInt8}, (∀ j, j < l.length → q (l.getD j 0) = true) → l.all q = true
  | [], _ => rfl
  | c :: r, h => by
    rw [List.all_cons, show q c = true from by simpa using h 0 (by simp), Bool.true_and]
    exact all_at fun j hj => by simpa using h (j + 1) (by simpa using hj)
theorem not_all {q : UInt8 → Bool} {l : List UInt8} {k : Nat} (hk : k < l.length) (h : q (l.getD k 0) = false) : l.all q = false := by
  rw [List.all_eq_false]
  refine ⟨l[k], List.getElem_mem _, ?_⟩
  rw [List.getD_eq_getElem?_getD, List.getElem?_eq_getElem hk] at h
  simpa using h
set_option maxRecDepth 100000 in
theorem word_ref (w : World) (s : ByteArray) (hl : s.size ≤ 1048576) : Calls Tryz.prog 48 #[.string s] w (WrPost w s) := by
  go_enter Tryz.func48, Tryz.ntmps48
  go_wp2_with fail
  go_loop [3] (fun v => WrRel (toL s) v) (fun v => s.size - (intOf v).toNat)
  case atStart => exact ⟨0, by omega, rfl, fun j hj => by omega⟩
  case round =>
    obtain ⟨k, hk, rfl, hok⟩ := hrel
    have Hok := Lib.hid hok
    clear hok
    rw [toL_len] at hk
    have hkr : (0 : Int) ≤ k := by omega
    by_cases hlt : k < s.size
    · have hkI : (k : Int) < s.size := by omega
      have hb := str_byte hlt
      obtain ⟨x, hx⟩ : ∃ x, x = (toL s).getD k 0 := ⟨_, rfl⟩
      rw [← hx] at hb
      have Hx := Lib.hid hx
      clear hx
      go_wp2_with fail
      refine (bare_ref x _).mono ?_
      rintro e w1 ⟨rfl, rfl⟩
      cases hbr : bareB x with
      | true =>
        have Hb := Lib.hid hbr
        clear hbr
        go_wp2_with fail
        refine ⟨⟨k + 1, by rw [toL_len]; omega, rfl, fun j hj => ?_⟩, by simp [intOf]; omega⟩
        rcases Nat.lt_or_ge j k with h2 | h2
        · exact Hok.out j h2
        · obtain rfl : j = k := by omega
          rw [← Hx.out]
          exact Hb.out
      | false =>
        have Hw : Hid (quoteL (toL s) = writeW (toL s)) := Lib.hid (by unfold writeW; rw [if_neg (fun h => by rw [not_all (k := k) (by rw [toL_len]; exact hlt) (by rw [← Hx.out]; exact hbr)] at h; exact absurd h.2 (by decide))])
        clear hbr
        go_wp2_with fail
        refine (quote_ref _ s hl).mono ?_
        rintro e w2 ⟨rfl, hB⟩
        rw [Hw.out]
        have HB := Lib.hid hB
        clear hB
        go_wp2_with fail
        go_ret
        exact ⟨rfl, HB.out⟩
    · have hkI : ¬ (k : Int) < s.size := by omega
      have hall : (toL s).all bareB = true := all_at fun j hj => Hok.out j (by rw [toL_len] at hj; omega)
      by_cases h0 : toL s = []
      · have e0 : (s.toList == []) = true := by rw [toList_toL, h0]; rfl
        have Hw : Hid (quoteL (toL s) = writeW (toL s)) := Lib.hid (by unfold writeW; rw [if_neg (by simp [h0])])
        clear h0 hall
        go_wp2_with fail
        refine (quote_ref _ s hl).mono ?_
        rintro e w2 ⟨rfl, hB⟩
        rw [Hw.out]
        have HB := Lib.hid hB
        clear hB
        go_wp2_with fail
        go_ret
        exact ⟨rfl, HB.out⟩
      · have e0 : (s.toList == []) = false := by rw [toList_toL, beq_eq_false_iff_ne]; exact h0
        have Hw : Hid (writeW (toL s) = toL s) := Lib.hid (by unfold writeW; rw [if_pos ⟨h0, hall⟩])
        clear h0 hall
        go_wp2_with fail
        go_ret
        exact ⟨by rw [Hw.out, mkS_toL]; rfl, Below.refl _ _⟩
end Go.Proofs.YtlljjddgbilipaaGreatDoor
