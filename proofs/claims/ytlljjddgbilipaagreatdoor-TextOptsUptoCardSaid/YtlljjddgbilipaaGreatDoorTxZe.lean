/-
  zero.
-/
import Derived.Test.YtlljjddgbilipaaGreatDoorTxSa0
namespace Go.Proofs.YtlljjddgbilipaaGreatDoor
open Go.RowKit Go.Maps

set_option linter.unusedSimpArgs false

attribute [local go_sem] lt1 lt2 lt3 lt4 lt5 lt6

def zeroA (a : ActD) : Bool := decide (a.ck = 0 ∧ a.path = [] ∧ a.ver = []) && decide (a.url = []) && decide (a.att = 0) && decide (a.fk = 0) && decide (a.fn = 0) && decide (a.fdata = []) && decide (a.name = []) && decide (a.data = []) && decide (a.n = 0) && decide (a.m = 0)
set_option maxRecDepth 100000 in
set_option maxHeartbeats 4000000 in
theorem zero_any (w : World) (a : ActD) (A1 A2 : Option Addr) (c1 c2 : Nat) :
    Calls Tryz.prog 39 #[.agg (actV a (.slice A1 a.data.length c1) (.slice A2 a.fdata.length c2)).toArray] w fun e w' => e = .returned (.bool (zeroA a)) ∧ Below w.heap.size w w' := by
  unfold actV
  obtain ⟨kind, ck, path, ver, name, data, n, m, url, att, fk, fn, fdata⟩ := a
  simp only
  obtain ⟨P1, hP1⟩ : ∃ x, x = mkS path := ⟨_, rfl⟩
  obtain ⟨P2, hP2⟩ : ∃ x, x = mkS ver := ⟨_, rfl⟩
  obtain ⟨P3, hP3⟩ : ∃ x, x = mkS name := ⟨_, rfl⟩
  obtain ⟨P4, hP4⟩ : ∃ x, x = mkS url := ⟨_, rfl⟩
  rw [← hP1, ← hP2, ← hP3, ← hP4]
  have e1 : P1.toList = path := by rw [hP1, toList_toL, toL_mkS]
  have e2 : P2.toList = ver := by rw [hP2, toList_toL, toL_mkS]
  have e3 : P3.toList = name := by rw [hP3, toList_toL, toL_mkS]
  have e4 : P4.toList = url := by rw [hP4, toList_toL, toL_mkS]
  clear hP1 hP2 hP3 hP4
  go_enter Tryz.func39, Tryz.ntmps39
  go_wp2_with fail
  all_goals (go_ret; refine ⟨bool_ret ?_, (Below.refl _ _).alloc (Nat.le_refl _) _⟩; (simp_all [zeroA] <;> rfl))
end Go.Proofs.YtlljjddgbilipaaGreatDoor
