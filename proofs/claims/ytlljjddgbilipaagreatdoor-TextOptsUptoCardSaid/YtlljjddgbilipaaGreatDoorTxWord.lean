/-
  text.Word: how a word is written.
-/
import Derived.Test.YtlljjddgbilipaaGreatDoorTxQb
namespace Go.Proofs.YtlljjddgbilipaaGreatDoor
open Go.RowKit

set_option linter.unusedSimpArgs false

attribute [local go_sem] lt1 lt2 lt3 lt4 lt5 lt6

theorem spanL_all : ∀ l : List UInt8, spanL l = l.length ↔ l.all bareB = true
  | [] => by simp [spanL]
  | c :: r => by
    have ih := spanL_all r
    unfold spanL at ih ⊢
    by_cases h : bareB c = true
    · rw [List.takeWhile_cons_of_pos h, List.length_cons, List.length_cons, List.all_cons, h, Bool.true_and, ← ih]
      omega
    · rw [List.takeWhile_cons_of_neg h, List.all_cons]
      simp [h]
/-- what both Words hand back -/
def WrPost (w : World) (s : ByteArray) (e : Ending) (w' : World) : Prop := e = .returned (.string (mkS (writeW (toL s)))) ∧ Below w.heap.size w w'
set_option maxRecDepth 100000 in
theorem word_any (w : World) (s : ByteArray) (hl : s.size ≤ 1048576) : Calls Tryz.prog 24 #[.string s] w (WrPost w s) := by
  by_cases h0 : toL s = []
  · have e0 : (s.toList == []) = true := by rw [toList_toL, h0]; rfl
    have e1 : (s.toList != []) = false := by rw [toList_toL, h0]; rfl
    have Hw : Hid (quoteL (toL s) = writeW (toL s)) := Lib.hid (by unfold writeW; rw [if_neg (by simp [h0])])
    clear h0
    go_enter Tryz.func24, Tryz.ntmps24
    go_wp2_with fail
    refine (quote_any _ s hl).mono ?_
    rintro e w1 ⟨rfl, hB⟩
    rw [Hw.out]
    have HB := Lib.hid hB
    clear hB
    go_wp2_with fail
    go_ret
    exact ⟨rfl, HB.out⟩
  · have e0 : (s.toList == []) = false := by rw [toList_toL, beq_eq_false_iff_ne]; exact h0
    have e1 : (s.toList != []) = true := by rw [toList_toL, bne_iff_ne]; exact h0
    by_cases hs : spanL (toL s) = s.size
    · have Hw : Hid (writeW (toL s) = toL s) := Lib.hid (by unfold writeW; rw [if_pos ⟨h0, (spanL_all _).1 (by rw [toL_len]; exact hs)⟩])
      have hI : ((spanL (toL s) : Int) == s.size) = true := by rw [beq_iff_eq, hs]
      clear h0 hs
      go_enter Tryz.func24, Tryz.ntmps24
      go_wp2_with fail
      refine (span_any _ s hl).mono ?_
      rintro e w1 ⟨rfl, rfl⟩
      generalize spanL (toL s) = sp at *
      go_wp2_with fail
      go_ret
      exact ⟨by rw [Hw.out, mkS_toL]; rfl, Below.refl _ _⟩
    · have Hw : Hid (quoteL (toL s) = writeW (toL s)) := Lib.hid (by unfold writeW; rw [if_neg (fun h => hs (by rw [← toL_len]; exact (spanL_all _).2 h.2))])
      have hI : ((spanL (toL s) : Int) == s.size) = false := by rw [beq_eq_false_iff_ne]; omega
      clear h0 hs
      go_enter Tryz.func24, Tryz.ntmps24
      go_wp2_with fail
      refine (span_any _ s hl).mono ?_
      rintro e w1 ⟨rfl, rfl⟩
      generalize spanL (toL s) = sp at *
      go_wp2_with fail
      refine (quote_any _ s hl).mono ?_
      rintro e w2 ⟨rfl, hB⟩
      rw [Hw.out]
      have HB := Lib.hid hB
      clear hB
      go_wp2_with fail
      go_ret
      exact ⟨rfl, HB.out⟩
end Go.Proofs.YtlljjddgbilipaaGreatDoor
