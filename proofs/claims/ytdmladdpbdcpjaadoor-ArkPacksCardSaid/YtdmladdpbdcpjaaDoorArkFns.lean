/-
  The small functions of the sums.
-/
import Derived.Test.YtdmladdpbdcpjaaDoorBase
import Derived.Test.YtdmladdpbdcpjaaDoorSha
import Derived.Test.YtdmladdpbdcpjaaDoorCode
import Derived.Deep.QuietTactic
import Derived.BigQuiet
namespace Go.Proofs.YtdmladdpbdcpjaaDoor
open Go.RowKit

attribute [local go_sem] lt1 lt2 lt3 lt4 lt5 lt6

theorem turn_count : ∀ n : Nat, n < 32 → 0 < n → bits BinOp.and IntKind.u64 (IntKind.u64.wrap (-(n : Int))) 31 = ((32 - n : Nat) : Int) := by decide +kernel
theorem rotr_int (x n : Nat) (hx : x < 4294967296) : bits .or .u32 ((x : Int) * 2 ^ (32 - n) % 4294967296) ((x : Int) / 2 ^ n) = (rotr x n : Nat) := by
  have e1 : (x : Int) * 2 ^ (32 - n) % 4294967296 = ((x * 2 ^ (32 - n) % 4294967296 : Nat) : Int) := by rw [Int.natCast_emod, Int.natCast_mul, Int.natCast_pow]; rfl
  have e2 : (x : Int) / 2 ^ n = ((x / 2 ^ n : Nat) : Int) := by rw [Int.natCast_ediv, Int.natCast_pow]; rfl
  rw [e1, e2, u32_or_nat _ _ (Nat.mod_lt _ (by decide)) (div_lt hx _)]
  rfl

theorem rot_any (x n : Nat) (w : World) (hx : x < 4294967296) (hn : n < 32) (hn0 : 0 < n) : Calls Tryd.prog 102 #[.int .u32 x, .int .i64 (-(n : Int))] w fun e w' => e = .returned (.int .u32 (rotr x n : Nat)) ∧ w = w' := by
  have hb := turn_count n hn hn0
  have hr := rotr_int x n hx
  have h1 : (0 : Int) ≤ ((32 - n : Nat) : Int) := by omega
  have h2 : ((32 - n : Nat) : Int) ≤ 32 := by omega
  go_enter Tryd.func102, Tryd.ntmps102
  go_wp2
  rw [show 32 - (32 - n) = n by omega, hr]
  go_ret
  exact ⟨rfl, rfl⟩
theorem right_any (x n : Nat) (w : World) (hx : x < 4294967296) (hn : n < 32) (hn0 : 0 < n) : Calls Tryd.prog 84 #[.int .u32 x, .int .i64 n] w fun e w' => e = .returned (.int .u32 (rotr x n : Nat)) ∧ w = w' := by
  go_enter Tryd.func84, Tryd.ntmps84
  go_wp2_with (first | (go_at_call 102; refine (rot_any x n _ hx hn hn0).mono ?_; rintro e w' ⟨rfl, rfl⟩))
  go_ret
  exact ⟨rfl, rfl⟩
theorem or_comm32 (a b : Int) : bits .or .u32 a b = bits .or .u32 b a := by
  show IntKind.u32.wrap ((BitVec.ofInt 32 a ||| BitVec.ofInt 32 b).toNat : Int) = IntKind.u32.wrap ((BitVec.ofInt 32 b ||| BitVec.ofInt 32 a).toNat : Int)
  rw [BitVec.or_comm]
theorem turn_any (x n : Nat) (w : World) (hx : x < 4294967296) (hn : n < 32) (hn0 : 0 < n) : Calls Tryd.prog 66 #[.int .u32 x, .int .i64 n] w fun e w' => e = .returned (.int .u32 (rotr x n : Nat)) ∧ ∃ q, w' = w.drewN q := by
  have hr := rotr_int x n hx
  rw [or_comm32] at hr
  have h1 : (0 : Int) ≤ 32 - (n : Int) := by omega
  have h2 : (32 : Int) - (n : Int) ≤ 32 := by omega
  have h3 : (n : Int) ≤ 32 := by omega
  have h4 : ((32 : Int) - (n : Int)).toNat = 32 - n := by omega
  go_enter Tryd.func66, Tryd.ntmps66
  go_wp2
  go_quiet (fail)
  go_wp2
  go_ret
  exact ⟨rfl, nq, rfl⟩

/-! ### the constants -/
def u32s (l : List Nat) : List Value := l.map fun x => .int .u32 (x : Nat)
theorem initial_any (w : World) : Calls Tryd.prog 59 #[] w fun e w' => e = .returned (.agg (u32s shaH).toArray) ∧ Below w.heap.size w w' := by
  go_enter Tryd.func59, Tryd.ntmps59
  go_wp2
  refine bodyPost_ret (v := .agg (u32s shaH).toArray) ?_ rfl ⟨rfl, (Below.refl _ _).alloc (Nat.le_refl _) _⟩
  simp [results, Tryd.results59, go_sem, u32s, shaH]
end Go.Proofs.YtdmladdpbdcpjaaDoor
