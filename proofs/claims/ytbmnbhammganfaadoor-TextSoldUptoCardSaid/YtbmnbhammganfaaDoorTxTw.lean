/-
  The law TextWords: what it answers, whatever it is asked.
-/
import Derived.Test.YtbmnbhammganfaaDoorH8
import Derived.Test.YtbmnbhammganfaaDoorTxWx
namespace Go.Proofs.YtbmnbhammganfaaDoor
open Go.RowKit Go.Maps

set_option linter.unusedSimpArgs false

attribute [local go_sem] lt1 lt2 lt3 lt4 lt5 lt6

/-- what a law hands back -/
def LawPost (w : World) (e : Ending) (w' : World) : Prop := e = .returned (.bool true) ∧ Below w.heap.size w w'
set_option maxRecDepth 100000 in
set_option maxHeartbeats 8000000 in
theorem textWords_any (s t : ByteArray) (w : World) (hw : Lw w) : Calls Tryd.prog 4 #[.string s, .string t] w (LawPost w) := by
  have Hf := Lib.hid (first_any w hw)
  clear hw
  by_cases hs : 70000 < s.size
  · have hI : (70000 : Int) < s.size := by omega
    go_enter Tryd.func4, Tryd.ntmps4
    go_wp2_with fail
    refine Hf.out.mono ?_
    rintro e w1 ⟨rfl, hB⟩
    have HB := Lib.hid hB
    clear hB
    go_wp2_with fail
    go_ret
    exact ⟨rfl, HB.out⟩
  have hI : ¬ (70000 : Int) < s.size := by omega
  by_cases ht : 20000 < t.size
  · have hJ : (20000 : Int) < t.size := by omega
    go_enter Tryd.func4, Tryd.ntmps4
    go_wp2_with fail
    refine Hf.out.mono ?_
    rintro e w1 ⟨rfl, hB⟩
    have HB := Lib.hid hB
    clear hB
    go_wp2_with fail
    go_ret
    exact ⟨rfl, HB.out⟩
  have hJ : ¬ (20000 : Int) < t.size := by omega
  have hs1 : s.size ≤ 1048576 := by omega
  have ht1 : t.size ≤ 1048576 := by omega
  go_enter Tryd.func4, Tryd.ntmps4
  go_wp2_with fail
  refine Hf.out.mono ?_
  rintro e w1 ⟨rfl, hB⟩
  have HB := Lib.hid hB
  clear hB
  go_wp2_with fail
  refine (words_any _ s hs1).mono ?_
  rintro e w2 ⟨D, v, rfl, hown, hB2, hD⟩
  obtain ⟨A, c, rfl, hS⟩ := row_sl hown
  have HB2 := Lib.hid (HB.out.trans (hB2.mono HB.out.size))
  have HS := Lib.hid hS
  have HD := Lib.hid hD
  clear hown hS hB2 hD
  go_wp2_with fail
  refine (words_ref _ s hs1).mono ?_
  rintro e w3 ⟨D2, v2, rfl, hown, hB3, hD⟩
  obtain ⟨A2, c2, rfl, hS⟩ := row_sl hown
  have HB3 := Lib.hid (HB2.out.trans (hB3.mono HB2.out.size))
  have HS1 := Lib.hid (HS.out.keep (Cells.of_below hB3))
  have HS2 := Lib.hid hS
  have hDD : D = D2 := by rw [map_mkS _ _ HD.out, map_mkS _ _ hD]
  subst hDD
  clear hown hS hB3 hD HD
  generalize wordsErr (toL s) = er at *
  have hT := texts_any D D A A2 c c2 w3 HS1.out HS2.out
  rw [decide_eq_true rfl] at hT
  have HT := Lib.hid hT
  clear hT
  go_wp2_with fail
  refine HT.out.mono ?_
  rintro e w4 ⟨rfl, nq, rfl⟩
  have HB4 := Lib.hid (below_drewN HB3.out nq)
  go_wp2_with (first
    | (go_at_call 11; refine (num_any _ _).mono ?_; rintro e w' ⟨rfl, rfl⟩))
  refine (word_any _ t ht1).mono ?_
  rintro e w5 ⟨rfl, hB5⟩
  have HB5 := Lib.hid (HB4.out.trans (hB5.mono HB4.out.size))
  clear hB5
  go_wp2_with fail
  refine (word_ref _ t ht1).mono ?_
  rintro e w6 ⟨rfl, hB6⟩
  have HB6 := Lib.hid (HB5.out.trans (hB6.mono HB5.out.size))
  clear hB6
  generalize mkS (writeW (toL t)) = W at *
  go_wp2_with fail
  go_ret
  exact ⟨rfl, HB6.out⟩
end Go.Proofs.YtbmnbhammganfaaDoor
