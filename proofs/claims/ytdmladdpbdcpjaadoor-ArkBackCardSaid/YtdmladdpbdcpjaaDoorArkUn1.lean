/-
  bytes.HasPrefix and bytes.Equal over slices of bytes as these texts have them.
-/
import Derived.Test.YtdmladdpbdcpjaaDoorArkOwn
import Derived.Test.YtdmladdpbdcpjaaDoorShelf
namespace Go.Proofs.YtdmladdpbdcpjaaDoor
open Go.RowKit

def intsOf (l : List UInt8) : List Int := l.map fun x => (x.toNat : Int)
theorem intsOf_length (l : List UInt8) : (intsOf l).length = l.length := by simp [intsOf]
theorem bytesOf_ints (l : List UInt8) : Lib.bytesOf (intsOf l) = l := by
  unfold Lib.bytesOf intsOf
  rw [List.map_map]
  conv => rhs; rw [← List.map_id l]
  apply List.map_congr_left
  intro x _
  simp
theorem bytesIn {w : World} {A : Option Addr} {c : Nat} {l : List UInt8} (h : Bs w A c l) : Lib.BytesIn w A l.length (intsOf l) := by
  intro hp
  obtain ⟨b, o, rfl, hx⟩ := h.cells hp
  refine ⟨b, o, rfl, fun i hi => ?_⟩
  rw [hx i (by omega), u8s_at hi]
  simp [intsOf, List.getD_eq_getElem?_getD, hi]
theorem prefix_any (x y : List UInt8) (A1 A2 : Option Addr) (n m c1 c2 : Nat) (w : World) (hn : x.length = n) (hm : y.length = m) (h1 : Bs w A1 c1 x) (h2 : Bs w A2 c2 y) :
    Calls Tryd.prog 85 #[.slice A1 n c1, .slice A2 m c2] w fun e w' => e = .returned (.bool (y.isPrefixOf x)) ∧ w' = w := by
  subst hn hm
  have h := Tryd.bytes_HasPrefix_all A1 A2 x.length c1 y.length c2 (intsOf x) (intsOf y) w (intsOf_length _) (intsOf_length _) h1.le (bytesIn h1) (bytesIn h2)
  rw [bytesOf_ints, bytesOf_ints] at h
  exact h
theorem equal_any (x y : List UInt8) (A1 A2 : Option Addr) (n m c1 c2 : Nat) (w : World) (hn : x.length = n) (hm : y.length = m) (h1 : Bs w A1 c1 x) (h2 : Bs w A2 c2 y) :
    Calls Tryd.prog 63 #[.slice A1 n c1, .slice A2 m c2] w fun e w' => e = .returned (.bool (x == y)) ∧ w' = w := by
  subst hn hm
  have h := Tryd.bytes_Equal_all A1 A2 x.length c1 y.length c2 (intsOf x) (intsOf y) w (intsOf_length _) (intsOf_length _) (bytesIn h1) (bytesIn h2)
  rw [bytesOf_ints, bytesOf_ints] at h
  exact h
end Go.Proofs.YtdmladdpbdcpjaaDoor
