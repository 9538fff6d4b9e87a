/-
  The table of the acts' forms.
-/
import Derived.Test.YtlljjddgbilipaaGreatDoorTxOwn
namespace Go.Proofs.YtlljjddgbilipaaGreatDoor
open Go.RowKit

set_option linter.unusedSimpArgs false

attribute [local go_sem] lt1 lt2 lt3 lt4 lt5 lt6

/-- an act's line -/
structure Form where
  word : List UInt8
  second : List UInt8
  kind : Nat
  sub : Nat
  fields : List UInt8
def fmV (f : Form) : List Value := [.string (mkS f.word), .string (mkS f.second), .int .i64 (f.kind : Nat), .int .i64 (f.sub : Nat), .string (mkS f.fields)]
def FORMS : List Form := [
  ⟨[114, 117, 110], [103, 101, 116], 1, 1, [80, 86]⟩,
  ⟨[114, 117, 110], [116, 105, 100, 121], 1, 2, []⟩,
  ⟨[114, 117, 110], [117, 112, 103, 114, 97, 100, 101], 1, 3, []⟩,
  ⟨[114, 117, 110], [100, 111, 119, 110, 103, 114, 97, 100, 101], 1, 4, [80, 86]⟩,
  ⟨[114, 117, 110], [118, 101, 110, 100, 111, 114], 1, 5, []⟩,
  ⟨[118, 101, 114, 105, 102, 121], [], 2, 0, []⟩,
  ⟨[111, 112, 101, 110], [], 3, 0, []⟩,
  ⟨[99, 114, 97, 115, 104], [], 4, 0, [78, 77]⟩,
  ⟨[97, 114, 109], [], 5, 0, [78]⟩,
  ⟨[119, 114, 105, 116, 101], [], 6, 0, [110, 68]⟩,
  ⟨[100, 114, 111, 112], [], 7, 0, [110]⟩,
  ⟨[102, 97, 117, 108, 116], [], 8, 0, [85, 65, 75, 70, 66]⟩,
  ⟨[112, 97, 103, 101], [], 9, 0, [110, 68]⟩,
  ⟨[111, 102, 102, 108, 105, 110, 101], [], 10, 0, [78]⟩,
  ⟨[119, 111, 114, 107, 101, 114, 115], [], 11, 0, [78]⟩]
def fmsV : List Form → List Value
  | [] => []
  | f :: r => fmV f ++ fmsV r
set_option maxHeartbeats 4000000 in
theorem forms_any (w : World) : Calls Tryz.prog 37 #[] w fun e w' => e = .returned (.slice (some ⟨w.heap.size, 0, none⟩) 15 15) ∧ w' = w.alloc (.cells (fmsV FORMS).toArray 84) := by
  go_enter Tryz.func37, Tryz.ntmps37
  go_wp2_with fail
  go_ret
  exact ⟨rfl, rfl⟩
end Go.Proofs.YtlljjddgbilipaaGreatDoor