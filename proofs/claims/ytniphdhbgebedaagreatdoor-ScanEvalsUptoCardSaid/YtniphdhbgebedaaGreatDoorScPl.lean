/-
  Texts as lists of bytes.
-/
import Derived.Test.YtniphdhbgebedaaGreatDoorBase
namespace Go.Proofs.YtniphdhbgebedaaGreatDoor

def toL (s : ByteArray) : List UInt8 := s.data.toList
theorem toL_len (s : ByteArray) : (toL s).length = s.size := by unfold toL; rw [Array.length_toList]; rfl
theorem toL_inj {a b : ByteArray} (h : toL a = toL b) : a = b := by
  cases a; cases b
  unfold toL at h
  simpa using h
def mkS (l : List UInt8) : ByteArray := ⟨l.toArray⟩
theorem toL_mkS (l : List UInt8) : toL (mkS l) = l := rfl
theorem mkS_toL (s : ByteArray) : mkS (toL s) = s := by cases s; simp [mkS, toL]
end Go.Proofs.YtniphdhbgebedaaGreatDoor
