/-
  first: lines of which the document fixes all.
-/
import Derived.Test.YtbmnbhammganfaaDoorTxPa
import Derived.Test.YtbmnbhammganfaaDoorTxFa
import Derived.Lib.SlBytesConst
namespace Go.Proofs.YtbmnbhammganfaaDoor
open Go.RowKit Go.Maps

set_option linter.unusedSimpArgs false

attribute [local go_sem] lt1 lt2 lt3 lt4 lt5 lt6

theorem f1 : wordsErr [119, 114, 105, 116, 101, 32, 32, 103, 111, 46, 109, 111, 100, 32, 34, 97, 32, 98, 92, 117, 48, 48, 48, 97, 34] = 0 ∧ wordsOf [119, 114, 105, 116, 101, 32, 32, 103, 111, 46, 109, 111, 100, 32, 34, 97, 32, 98, 92, 117, 48, 48, 48, 97, 34] = [[119, 114, 105, 116, 101], [103, 111, 46, 109, 111, 100], [97, 32, 98, 10]] := by decide +kernel
theorem f2 : (parseA [114, 117, 110, 32, 103, 101, 116, 32, 97, 46, 120, 47, 100, 32, 34, 34]).2 = 0 ∧ (parseA [114, 117, 110, 32, 103, 101, 116, 32, 97, 46, 120, 47, 100, 32, 34, 34]).1.kind = 1 ∧ (parseA [114, 117, 110, 32, 103, 101, 116, 32, 97, 46, 120, 47, 100, 32, 34, 34]).1.path = [97, 46, 120, 47, 100] := by decide +kernel
theorem dec1 : Lib.decDigits 1 = [49] := by
  rw [Lib.decDigits, dif_pos (by decide)]
  rfl
theorem num1 : numP [49] = some 1 := numP_iff.2 ⟨by unfold Lib.itoa; rw [if_neg (by decide)]; exact dec1, by decide, by decide⟩
theorem numx : numP [120] = none := by
  unfold numP
  rw [show Lib.atoiAll [120] = .syntax by decide +kernel]
theorem f3 : parseA [99, 114, 97, 115, 104, 32, 49, 32, 120] = (zAct, 6) := by
  have h1 : wordsErr [99, 114, 97, 115, 104, 32, 49, 32, 120] = 0 ∧ wordsOf [99, 114, 97, 115, 104, 32, 49, 32, 120] = [[99, 114, 97, 115, 104], [49], [120]] := by decide +kernel
  have h2 : findL FORMS [[99, 114, 97, 115, 104], [49], [120]] = some (⟨[99, 114, 97, 115, 104], [], 4, 0, [78, 77]⟩, 1) := by
    rfl
  rw [parseA_ok h1.1, h1.2]
  unfold parseW
  rw [h2]
  simp only
  rw [if_neg (by decide)]
  have h3 : ∀ s, stepF 78 [49] s = some (setN 78 1 s.1, s.2) := fun s => by
    have h : stepF 78 [49] s = (numP [49]).map (fun n => (setN 78 n s.1, s.2)) := rfl
    rw [h, num1]
    rfl
  have h4 : ∀ s, stepF 77 [120] s = none := fun s => by
    have h : stepF 77 [120] s = (numP [120]).map (fun n => (setN 77 n s.1, s.2)) := rfl
    rw [h, numx]
    rfl
  have h5 : ∀ s, parseF [78, 77] [[49], [120]] s = none := fun s => by
    rw [parseF, h3]
    simp only
    rw [parseF, h4]
  have h6 : parseF [78, 77] (List.drop 1 ([[99, 114, 97, 115, 104], [49], [120]] : List (List UInt8))) (initA ⟨[99, 114, 97, 115, 104], [], 4, 0, [78, 77]⟩, false) = none := h5 _
  rw [h6]
def act4 : ActD := { zAct with kind := 6, name := [97], data := [120, 32, 121] }
theorem f4 : formatA act4 = ([119, 114, 105, 116, 101, 32, 97, 32, 34, 120, 32, 121, 34], 0) := by decide +kernel
end Go.Proofs.YtbmnbhammganfaaDoor
