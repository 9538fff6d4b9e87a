/-
  Digits and base64 as plain functions of bytes.
-/
import Derived.Laws.BitsAllLaws
import Derived.IntWalk
namespace Go.Proofs.YtdmladdpbdcpjaaDoor

def digits16 : List UInt8 := [48, 49, 50, 51, 52, 53, 54, 55, 56, 57, 97, 98, 99, 100, 101, 102]
def hexOf (b : List UInt8) : List UInt8 := b.flatMap fun x => [digits16.getD (x.toNat / 16) 0, digits16.getD (x.toNat % 16) 0]
def letters64 : List UInt8 := [65, 66, 67, 68, 69, 70, 71, 72, 73, 74, 75, 76, 77, 78, 79, 80, 81, 82, 83, 84, 85, 86, 87, 88, 89, 90, 97, 98, 99, 100, 101, 102, 103, 104, 105, 106, 107, 108, 109, 110, 111, 112, 113, 114, 115, 116, 117, 118, 119, 120, 121, 122, 48, 49, 50, 51, 52, 53, 54, 55, 56, 57, 43, 47]
def letter (n : Nat) : UInt8 := letters64.getD n 0
def num3 (a b c : UInt8) : Nat := a.toNat * 65536 + b.toNat * 256 + c.toNat
/-- three bytes as four letters -/
def four (n : Nat) : List UInt8 := [letter (n / 262144), letter (n / 4096 % 64), letter (n / 64 % 64), letter (n % 64)]
def b64 : List UInt8 → List UInt8
  | [] => []
  | [a] => (four (num3 a 0 0)).take 2 ++ [61, 61]
  | [a, b] => (four (num3 a b 0)).take 3 ++ [61]
  | a :: b :: c :: r => four (num3 a b c) ++ b64 r
theorem b64_ab : b64 [97, 98] = [89, 87, 73, 61] := by decide +kernel
theorem num3_lt (a b c : UInt8) : num3 a b c < 16777216 := by
  have h1 := a.toNat_lt; have h2 := b.toNat_lt; have h3 := c.toNat_lt
  unfold num3; omega
/-- the place of a letter -/
def place64 (c : UInt8) : Option Nat := letters64.findIdx? (· == c)
theorem place_letter : ∀ n, n < 64 → place64 (letter n) = some n := by decide +kernel
theorem letter_ne_eq : ∀ n, n < 64 → letter n ≠ 61 := by decide +kernel
theorem place_eq : place64 61 = none := by decide +kernel
theorem b64_length : ∀ b : List UInt8, (b64 b).length = (b.length + 2) / 3 * 4
  | [] => rfl
  | [_] => by simp [b64, four]
  | [_, _] => by simp [b64, four]
  | _ :: _ :: _ :: r => by
    rw [b64, List.length_append, b64_length r]
    simp [four]
    omega
/-! ### or, and of int's -/
theorem i64_or_nat (a b : Nat) (ha : a < 4611686018427387904) (hb : b < 4611686018427387904) : bits .or .i64 (a : Int) (b : Int) = ((a ||| b : Nat) : Int) := by
  show IntKind.i64.wrap ((BitVec.ofInt 64 (a : Int) ||| BitVec.ofInt 64 (b : Int)).toNat : Int) = _
  have := Nat.or_lt_two_pow (n := 62) ha hb
  rw [BitVec.toNat_or, ofInt_u64 a (by omega), ofInt_u64 b (by omega), IntKind.wrap_i64]
  omega
theorem i64_and_nat (a b : Nat) (ha : a < 4611686018427387904) (hb : b < 4611686018427387904) : bits .and .i64 (a : Int) (b : Int) = ((a &&& b : Nat) : Int) := by
  show IntKind.i64.wrap ((BitVec.ofInt 64 (a : Int) &&& BitVec.ofInt 64 (b : Int)).toNat : Int) = _
  have := Nat.and_lt_two_pow (n := 62) a hb
  rw [BitVec.toNat_and, ofInt_u64 a (by omega), ofInt_u64 b (by omega), IntKind.wrap_i64]
  omega
theorem num3_or (a b c : UInt8) : ((a.toNat * 65536 ||| b.toNat * 256) ||| c.toNat) = num3 a b c := by
  have h1 := a.toNat_lt; have h2 := b.toNat_lt; have h3 := c.toNat_lt
  rw [nat_join 16 (a.toNat * 65536) (b.toNat * 256) (by omega) (by omega), nat_join 8 (a.toNat * 65536 + b.toNat * 256) c.toNat (by omega) (by omega)]
  rfl
end Go.Proofs.YtdmladdpbdcpjaaDoor
