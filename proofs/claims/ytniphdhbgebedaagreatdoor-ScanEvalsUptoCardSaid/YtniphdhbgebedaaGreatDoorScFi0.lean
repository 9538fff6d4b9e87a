/-
  Plain: the chapter's example.
-/
import Derived.Test.YtniphdhbgebedaaGreatDoorScRe
import Derived.Test.YtniphdhbgebedaaGreatDoorScEv
namespace Go.Proofs.YtniphdhbgebedaaGreatDoor

def ft1 : List UInt8 := [47, 47, 103, 111, 58, 98, 117, 105, 108, 100, 32, 108, 105, 110, 117, 120, 32, 38, 38, 32, 33, 97, 114, 109, 54, 52, 10, 10, 112, 97, 99, 107, 97, 103, 101, 32, 97, 10, 105, 109, 112, 111, 114, 116, 32, 40, 32, 34, 98, 46, 99, 47, 100, 34, 59, 32, 120, 32, 34, 102, 109, 116, 34, 32, 41, 10, 102, 117, 110, 99, 32, 102, 40, 41, 32, 123]
def ft2 : List UInt8 := [112, 97, 99, 107, 97, 103, 101, 32, 97, 32, 105, 109, 112, 111, 114, 116, 32, 34, 98, 34]
def ft3 : List UInt8 := [97, 32, 38, 38, 32, 40, 98, 32, 124, 124, 32, 33, 99, 41]
def fr1 : List UInt8 := [108, 105, 110, 117, 120, 32, 38, 38, 32, 33, 97, 114, 109, 54, 52]
def fi1 : List UInt8 := [98, 46, 99, 47, 100]
def fi2 : List UInt8 := [102, 109, 116]
theorem fr1_whole : Whole fr1 (.and (.tag [108, 105, 110, 117, 120]) (.not (.tag [97, 114, 109, 54, 52]))) := by
  refine ⟨[], ?_, rfl⟩
  refine .first (s1 := []) (and2 (u := [32, 38, 38, 32, 33, 97, 114, 109, 54, 52]) (v := [32, 33, 97, 114, 109, 54, 52]) (r := []) ?_ rfl ?_ rfl) (.stop rfl)
  · exact Par.tag (s1 := fr1) (s2 := fr1) rfl rfl (by decide)
  · exact .bang (s1 := [97, 114, 109, 54, 52]) rfl (Par.tag (s1 := [97, 114, 109, 54, 52]) (s2 := [97, 114, 109, 54, 52]) rfl rfl (by decide))
theorem fr1_err : ruleErr fr1 = 0 := by
  unfold ruleErr
  rw [if_neg (by decide), if_pos ⟨_, fr1_whole⟩]
noncomputable def errE (t : List UInt8) : Int := if t = fr1 then 0 else ruleErr t
theorem errE_eq : errE = ruleErr := by
  funext t
  unfold errE
  split
  · rename_i h; rw [h, fr1_err]
  · rfl
set_option maxRecDepth 100000 in
theorem ft1_rd : rdL importOk errE .begin_ src0 (toksL ft1) = .done ⟨[97], [fi1, fi2], fr1⟩ := by kernel_rfl
set_option maxRecDepth 100000 in
theorem ft2_rd : rdL importOk errE .begin_ src0 (toksL ft2) = .fault 1 11 ⟨[97], [], []⟩ := by kernel_rfl
theorem sort2 : sortC [fi1, fi2] = [fi1, fi2] := by
  unfold sortC
  rw [List.mergeSort_of_pairwise (by decide)]
  decide
theorem ft1_read : readR ft1 = (⟨[97], [fi1, fi2], fr1⟩, 0, 0) := by
  unfold readR rdOf
  rw [if_neg (by decide), ← errE_eq, ft1_rd]
  simp only [sort2]
theorem ft2_read : readR ft2 = (src0, 1, 11) := by
  unfold readR rdOf
  rw [if_neg (by decide), ← errE_eq, ft2_rd]
end Go.Proofs.YtniphdhbgebedaaGreatDoor
