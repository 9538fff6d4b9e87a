/-
  The sum of a manifest: the reference's. (Printed by wip/abexp.py.)
-/
import Derived.Test.YtfbdjfljgcfikaaDoorArkH1R
namespace Go.Proofs.YtfbdjfljgcfikaaDoor
open Go.RowKit

set_option linter.unusedSimpArgs false

attribute [local go_sem] lt1 lt2 lt3 lt4 lt5 lt6

theorem byName_one (p : Fl) : byName [p] = [p] := by simp [byName, insN, posN]
theorem namesErr_mod (d : List UInt8) : namesErr [] (namesOf [(goMod, d)]) = 0 := by
  show namesErr [] [toL goMod] = 0
  decide +kernel
set_option maxHeartbeats 1000000 in
theorem manifest_ref (w : World) (A : Option Addr) (c : Nat) (d : List UInt8) (hb : Bs w A c d) (hd : d.length ≤ 1048000) :
    Calls Tryd.prog 41 #[.slice A d.length c] w (SumPost [(goMod, d)] w) := by
  have hfl := FlAt.one goMod hb
  have hsum := h1_ref _ _ 1 [(goMod, d)] hfl (by simp) (fun p hp => by rw [List.mem_singleton.1 hp]; show goMod.size ≤ 1048576; decide) (fun p hp => by rw [List.mem_singleton.1 hp]; exact hd)
    (by rw [byName_one]; exact Nat.le_trans (linesOf_len _ 512 fun p hp => by rw [List.mem_singleton.1 hp]; show goMod.size ≤ 512; decide) (by simp)) (fun p hp => by rwa [byName_one] at hp)
  have Hp : Hid (∀ w', Below (w.alloc (.cells #[.string goMod, .slice A d.length c] 46)).heap.size (w.alloc (.cells #[.string goMod, .slice A d.length c] 46)) w' → Below w.heap.size w w') := Lib.hid fun w' h => ((Below.refl _ _).alloc (Nat.le_refl _) _).trans (h.mono (by simp))
  unfold H1Post at hsum
  rw [namesErr_mod, byName_one] at hsum
  simp only [if_true] at hsum
  obtain ⟨X, hX⟩ : ∃ X, X = (⟨(sumOf [(goMod, d)]).toArray⟩ : ByteArray) := ⟨_, rfl⟩
  unfold SumPost
  rw [← hX] at hsum ⊢
  clear hX hb
  unfold goMod at hsum Hp
  clear hfl
  go_enter Tryd.func41, Tryd.ntmps41
  go_wp2_with fail
  refine hsum.mono ?_
  rintro e w2 ⟨rfl, hb2⟩
  have Hb2 := Lib.hid (Hp.out _ hb2)
  clear hb2 hsum
  go_wp2_with fail
  go_ret
  exact ⟨rfl, Hb2.out⟩
end Go.Proofs.YtfbdjfljgcfikaaDoor
