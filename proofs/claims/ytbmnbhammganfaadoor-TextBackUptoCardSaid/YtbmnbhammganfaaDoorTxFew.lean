/-
  few: is an act small?
-/
import Derived.Test.YtbmnbhammganfaaDoorTxBox
import Derived.Test.YtbmnbhammganfaaDoorTxSa0
namespace Go.Proofs.YtbmnbhammganfaaDoor
open Go.RowKit Go.Maps

set_option linter.unusedSimpArgs false

attribute [local go_sem] lt1 lt2 lt3 lt4 lt5 lt6

set_option maxRecDepth 100000 in
set_option maxHeartbeats 8000000 in
theorem few_any (w : World) (a : ActD) (ha : ActOk a) (A1 A2 : Option Addr) (c1 c2 : Nat) :
    Calls Tryd.prog 9 #[.agg (actV a (.slice A1 a.data.length c1) (.slice A2 a.fdata.length c2)).toArray] w fun e w' => (∃ b, e = .returned (.bool b)) ∧ Below w.heap.size w w' := by
  unfold actV
  obtain ⟨kind, ck, path, ver, name, data, n, m, url, att, fk, fn, fdata⟩ := a
  obtain ⟨k1, k2, k3, k4, k5, k6, -, -, -, -, -⟩ := ha
  simp only at k1 k2 k3 k4 k5 k6 ⊢
  obtain ⟨P1, hP1⟩ : ∃ x, x = mkS path := ⟨_, rfl⟩
  obtain ⟨P2, hP2⟩ : ∃ x, x = mkS ver := ⟨_, rfl⟩
  obtain ⟨P3, hP3⟩ : ∃ x, x = mkS name := ⟨_, rfl⟩
  obtain ⟨P4, hP4⟩ : ∃ x, x = mkS url := ⟨_, rfl⟩
  rw [← hP1, ← hP2, ← hP3, ← hP4]
  have e1 : P1.size ≤ 1048576 := by rw [hP1, mkS_size]; exact k1
  have e2 : P2.size ≤ 1048576 := by rw [hP2, mkS_size]; exact k2
  have e3 : P3.size ≤ 1048576 := by rw [hP3, mkS_size]; exact k3
  have e4 : P4.size ≤ 1048576 := by rw [hP4, mkS_size]; exact k4
  clear hP1 hP2 hP3 hP4 k1 k2 k3 k4
  generalize data.length = L1 at *
  generalize fdata.length = L2 at *
  go_enter Tryd.func9, Tryd.ntmps9
  go_wp2_with fail
  go_ret
  exact ⟨⟨_, rfl⟩, (Below.refl _ _).alloc (Nat.le_refl _) _⟩
theorem ActBox.few {w : World} {V : Array Value} {a : ActD} (h : ActBox w V a) (ha : ActOk a) : Calls Tryd.prog 9 #[.agg V] w fun e w' => (∃ b, e = .returned (.bool b)) ∧ Below w.heap.size w w' := by
  obtain ⟨A1, c1, A2, c2, rfl, h1, h2⟩ := h
  exact few_any w a ha A1 A2 c1 c2
end Go.Proofs.YtbmnbhammganfaaDoor
