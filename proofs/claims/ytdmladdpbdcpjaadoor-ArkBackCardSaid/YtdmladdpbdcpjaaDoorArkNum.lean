/-
  A number in bytes, read. (Printed by wip/abexp.py.)
-/
import Derived.Test.YtdmladdpbdcpjaaDoorArkOwn
namespace Go.Proofs.YtdmladdpbdcpjaaDoor
open Go.RowKit

set_option linter.unusedSimpArgs false

attribute [local go_sem] lt1 lt2 lt3 lt4 lt5 lt6

def numOf : List UInt8 → Nat
  | [] => 0
  | x :: r => x.toNat + 256 * numOf r
theorem numOf_lt : ∀ b : List UInt8, numOf b < 256 ^ b.length
  | [] => by simp [numOf]
  | x :: r => by
    have ih := numOf_lt r
    have hx := x.toNat_lt
    rw [numOf, List.length_cons, Nat.pow_succ]
    omega
theorem numOf_append (a b : List UInt8) : numOf (a ++ b) = numOf a + 256 ^ a.length * numOf b := by
  induction a with
  | nil => simp [numOf]
  | cons x r ih =>
    rw [List.cons_append, numOf, numOf, ih, List.length_cons, Nat.pow_succ, Nat.mul_add, Nat.mul_comm (256 ^ r.length) 256, Nat.mul_assoc]
    omega
theorem pow256 (i : Nat) : 256 ^ i = 2 ^ (8 * i) := by rw [Nat.pow_mul]
theorem numOf_take {b : List UInt8} {i : Nat} (h : i < b.length) : numOf (b.take (i + 1)) = numOf (b.take i) ||| (b.getD i 0).toNat * 2 ^ (8 * i) := by
  have hl := numOf_lt (b.take i)
  have hi : (b.take i).length = i := by rw [List.length_take]; omega
  rw [hi, pow256] at hl
  rw [List.take_succ_eq_append_getElem h, numOf_append, hi, pow256]
  have e : numOf [b[i]] = (b.getD i 0).toNat := by simp [numOf, List.getD_eq_getElem?_getD, h]
  rw [e, Nat.or_comm, ← Nat.shiftLeft_eq, ← Nat.shiftLeft_add_eq_or_of_lt hl, Nat.shiftLeft_eq]
  rw [Nat.mul_comm (2 ^ (8 * i))]
  omega
def NuRel (b : List UInt8) (nv iv : Value) (w wr : World) : Prop := ∃ i, i ≤ b.length ∧ iv = .int .i64 (i : Nat) ∧ nv = .int .i64 (numOf (b.take i) : Nat) ∧ w = wr
set_option maxHeartbeats 1000000 in
theorem number_any (w : World) (b : List UInt8) (A : Option Addr) (c : Nat) (hb : Bs w A c b) (hl : b.length ≤ 4) :
    Calls Tryd.prog 86 #[.slice A b.length c] w fun e w' => e = .returned (.int .i64 (numOf b : Nat)) ∧ w = w' := by
  have Hb := Lib.hid hb
  clear hb
  go_enter Tryd.func86, Tryd.ntmps86
  go_wp2_with fail
  go_loopw [3, 8] (fun nv iv wr => NuRel b nv iv w wr) (fun _ iv _ => b.length - (intOf iv).toNat)
  case atStart => exact ⟨0, by omega, rfl, rfl, rfl⟩
  case round =>
    obtain ⟨i, hi, rfl, rfl, rfl⟩ := hrel
    have hir : (0 : Int) ≤ i := by omega
    by_cases hlt : i < b.length
    · have hlI : (i : Int) < b.length := by omega
      obtain ⟨bb, oo, rfl, c1⟩ := Hb.out.at_ hlt
      have hst := numOf_take hlt
      have hn := numOf_lt (b.take i)
      have hxl := (b.getD i 0).toNat_lt
      have hp : 2 ^ (8 * i) ≤ 16777216 := Nat.le_trans (Nat.pow_le_pow_right (by omega) (show 8 * i ≤ 24 by omega)) (by decide)
      have hnl : numOf (b.take i) < 4294967296 := Nat.lt_of_lt_of_le hn (Nat.le_trans (Nat.pow_le_pow_right (by omega) (show (b.take i).length ≤ 4 by rw [List.length_take]; omega)) (by decide))
      have hmul : (b.getD i 0).toNat * 2 ^ (8 * i) < 4294967296 := Nat.lt_of_le_of_lt (Nat.mul_le_mul (Nat.le_of_lt_succ (by omega : (b.getD i 0).toNat < 255 + 1)) hp) (by decide)
      have Hst : Hid (bits .or .i64 (numOf (b.take i) : Int) (((b.getD i 0).toNat * 2 ^ (8 * i) : Nat) : Int) = (numOf (b.take (i + 1)) : Int)) := Lib.hid (by rw [i64_or_nat _ _ (by omega) (by omega), hst])
      have hsh : IntKind.i64.wrap (((b.getD i 0).toNat : Int) * 2 ^ (8 * i)) = (((b.getD i 0).toNat * 2 ^ (8 * i) : Nat) : Int) := by
        have e : ((b.getD i 0).toNat : Int) * 2 ^ (8 * i) = (((b.getD i 0).toNat * 2 ^ (8 * i) : Nat) : Int) := by rw [Int.natCast_mul, Int.natCast_pow]; rfl
        rw [e, IntKind.wrap_i64]
        omega
      have s1 : (0 : Int) ≤ 8 * (i : Int) := by omega
      have s2 : 8 * (i : Int) ≤ 24 := by omega
      have s3 : (8 * (i : Int)).toNat = 8 * i := by omega
      have Hfin : Hid (NuRel b (.int .i64 (numOf (b.take (i + 1)) : Nat)) (.int .i64 ((i : Int) + 1)) w w) := Lib.hid ⟨i + 1, by omega, by simp, rfl, rfl⟩
      clear hst hn
      generalize numOf (b.take (i + 1)) = n1 at *
      generalize numOf (b.take i) = n0 at *
      generalize (b.getD i 0).toNat = x at *
      generalize x * 2 ^ (8 * i) = y at *
      go_wp2_with fail
      rw [Hst.out]
      exact ⟨Hfin.out, by simp only [intOf]; omega⟩
    · obtain rfl : i = b.length := by omega
      rw [List.take_of_length_le (Nat.le_refl _)]
      go_wp2_with fail
      go_ret
      exact ⟨rfl, rfl⟩
end Go.Proofs.YtdmladdpbdcpjaaDoor
