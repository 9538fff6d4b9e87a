/-
  Plain: what is sold, as words, there and back.
-/
import Derived.Test.YtbmnbhammganfaaDoorTxSg
import Derived.Test.YtbmnbhammganfaaDoorH5
namespace Go.Proofs.YtbmnbhammganfaaDoor
open Go.RowKit

set_option linter.unusedSimpArgs false

theorem map_mkS {D : List ByteArray} {l : List (List UInt8)} (h : D.map toL = l) : D = l.map mkS := by
  rw [← h, List.map_map]
  have e : mkS ∘ toL = id := funext mkS_toL
  rw [e, List.map_id]
theorem filesB_flat : ∀ l : List Fl, filesB ((flatL l).map mkS) = l
  | [] => rfl
  | p :: r => by
    rw [flatL, List.map_cons, List.map_cons, filesB, filesB_flat r, mkS_toL, toL_mkS]
theorem soldOf_words {D : List ByteArray} {d : SoldD} (h : D.map toL = soldWords d) : soldOf D = d := by
  rw [map_mkS h]
  unfold soldOf soldWords
  simp only [List.map_cons, List.drop_succ_cons, List.drop_zero, filesB_flat]
  obtain ⟨p, v, m, f⟩ := d
  simp [mkS_toL, toL_mkS]
theorem sold_words {d : SoldD} (h : (joinB ((soldWords d).map writeW)).length ≤ 65536) : wordsErr (joinB ((soldWords d).map writeW)) = 0 ∧ wordsOf (joinB ((soldWords d).map writeW)) = soldWords d := by
  exact words_good (by omega) (by rw [joinB_line]; exact wordsL_line _)
theorem sold_back {d : SoldD} (h : (joinB ((soldWords d).map writeW)).length ≤ 65536) : soldErr (joinB ((soldWords d).map writeW)) = 0 ∧ ∀ D : List ByteArray, D.map toL = wordsOf (joinB ((soldWords d).map writeW)) → soldOf D = d := by
  obtain ⟨h1, h2⟩ := sold_words h
  refine ⟨?_, fun D hD => soldOf_words (by rw [hD, h2])⟩
  rw [soldErr_ok h1, h2]
  unfold soldErrW
  rw [if_neg (by simp [soldWords]), if_neg (by rw [soldWords_len]; omega)]
theorem words_cons {D E : List ByteArray} {q : ByteArray} {l : List (List UInt8)} (h1 : D.map toL = l) (h2 : (q :: E).map toL = l) : D = q :: E := by
  rw [map_mkS h1, map_mkS h2]
end Go.Proofs.YtbmnbhammganfaaDoor
