/-
  What is done with a constraint ahead of the package clause.
-/
import Derived.Test.YtniphdhbgebedaaGreatDoorScPs
namespace Go.Proofs.YtniphdhbgebedaaGreatDoor
open Go.RowKit

set_option linter.unusedSimpArgs false

set_option linter.unusedSimpArgs false

attribute [local go_sem] lt1 lt2 lt3 lt4 lt5 lt6

open Classical in
noncomputable def ruleErr (s : List UInt8) : Int := if 1000 < s.length then 13 else if ∃ x, Whole s x then 0 else 11
theorem parse_err (w : World) (s : List UInt8) : Calls Tryz.prog 34 #[.string (mkS s)] w fun e w' => (∃ v, e = .returned (.tuple #[v, .int .i64 (ruleErr s)]) ∧ FnV v) ∧ Below w.heap.size w w' := by
  refine (parse_any w s).mono ?_
  rintro e y ⟨hB, ⟨h1, rfl⟩ | ⟨h1, h2, rfl⟩ | ⟨h1, x, v, b, h2, h3, rfl⟩⟩
  · exact ⟨⟨_, by unfold ruleErr; rw [if_pos h1], .inl rfl⟩, hB⟩
  · exact ⟨⟨_, by unfold ruleErr; rw [if_neg (by omega), if_neg h2], .inl rfl⟩, hB⟩
  · exact ⟨⟨_, by unfold ruleErr; rw [if_neg (by omega), if_pos ⟨x, h2⟩], .inr h3.form⟩, hB⟩
def B2Res (w' : World) (r : Nat) (s rule : List UInt8) (line : Int) (a0 a1 v ln er : Value) : Prop :=
  if rule ≠ [] then RdB w' r a0 a1 (.string (mkS rule)) .nilFunc (.int .i64 line) (.int .i64 12) else if ruleErr s ≠ 0 then RdB w' r a0 a1 (.string (mkS rule)) .nilFunc (.int .i64 line) (.int .i64 (ruleErr s)) else RdB w' r a0 a1 (.string (mkS s)) v ln er
set_option maxRecDepth 100000 in
set_option maxHeartbeats 16000000 in
theorem b2_any (w : World) (r p : Nat) (k : Int) (s rule : List UInt8) (line : Int) (a0 a1 v ln er : Value) (h : RdB w r a0 a1 (.string (mkS rule)) v ln er) (hp : w.heap[p]? = some (.cells #[rP r] 61 (0, 0))) :
    Calls Tryz.prog 62 #[.agg #[.int .u8 k, .string (mkS s), .int .i64 line], rP p] w fun en w' => (∃ u, en = .returned u) ∧ Hid (Fr [r] w w') ∧
      Hid (B2Res w' r s rule line a0 a1 v ln er) := by
  have pw : w.cell? ⟨p, 0, none⟩ = some (.pointer (some ⟨r, 0, none⟩)) := (blk_cells hp).1 0
  have hl := lt_of_heap h
  have hlp := lt_of_heap hp
  obtain ⟨SS, hSS⟩ : ∃ SS, mkS s = SS := ⟨_, rfl⟩
  obtain ⟨RS, hRS⟩ : ∃ RS, mkS rule = RS := ⟨_, rfl⟩
  rw [hRS] at h
  obtain ⟨x0, hx0⟩ : ∃ x, x = w.alloc (.cells #[.int .u8 k, .string (mkS s), .int .i64 line] 70) := ⟨_, rfl⟩
  have B0 : Below w.heap.size w x0 := by rw [hx0]; exact (Below.refl _ w).alloc (Nat.le_refl _) _
  have hgx : w.heap.size < x0.heap.size := by rw [hx0]; simp
  have ht : x0.heap[w.heap.size]? = some (.cells #[.int .u8 k, .string (mkS s), .int .i64 line] 70 (0, 0)) := by rw [hx0]; exact heap_alloc_new _ _
  have hps := parse_err x0 s
  obtain ⟨c, hc⟩ : ∃ c, ruleErr s = c := ⟨_, rfl⟩
  rw [hc, hSS] at hps
  rw [hSS] at hx0 ht ⊢
  have H := Lib.hid h
  have HB0 := Lib.hid B0
  have HT := Lib.hid ht
  have HC := Lib.hid hps
  have HX := Lib.hid hx0
  have HSS := Lib.hid hSS
  have HRS := Lib.hid hRS
  have Hcc := Lib.hid hc
  clear h hp hps hx0 B0 ht hc hSS hRS
  unfold rP
  go_enter Tryz.func62, Tryz.ntmps62
  go_wp2_with fail
  rw [← HX.out]
  refine HC.out.mono ?_
  rintro e y ⟨⟨vx, rfl, hvx⟩, hB⟩
  have HBy : Hid (Below w.heap.size w y) := Lib.hid (HB0.out.trans (hB.mono HB0.out.size))
  have py : y.cell? ⟨p, 0, none⟩ = some (.pointer (some ⟨r, 0, none⟩)) := below_cell HBy.out hlp pw
  have hty := (hB.block _ hgx).trans HT.out
  have t0 := (blk_cells hty).1 0
  have t1 := (blk_cells hty).1 1
  have t2 := (blk_cells hty).1 2
  have hry : RdB y r a0 a1 (.string RS) v ln er := (HBy.out.block r hl).trans H.out
  have cy : y.cell? ⟨r, 2, none⟩ = some (.string RS) := (blk_cells hry).1 2
  have fy : y.frozen? ⟨r, 2, none⟩ = false := (blk_cells hry).2.1 2
  have HR := Lib.hid hry
  have Hvx := Lib.hid hvx
  clear hB hty hry hvx
  by_cases h1 : rule = []
  · have e1 : (RS.toList == []) = true := by rw [← HRS.out, toList_toL, toL_mkS, h1]; rfl
    have H1 := Lib.hid h1
    clear h1
    by_cases h2 : c = 0
    · have e2 : (c != 0) = false := by rw [h2]; rfl
      have HU := Lib.hid (show RdB (y.setCell ⟨r, 2, none⟩ (.string SS)) r a0 a1 (.string SS) v ln er from by unfold RdB; rw [heap_setCell_at HR.out]; rfl)
      have HUF := Lib.hid ((Fr.of_below HBy.out [r]).trans (Fr.setCell [r] y ⟨r, 2, none⟩ (.string SS) (by simp)))
      have H2 := Lib.hid h2
      clear h2
      go_wp2_with fail
      go_end0
      refine ⟨⟨_, rfl⟩, HUF, Lib.hid ?_⟩
      unfold B2Res
      rw [if_neg (by simp [H1.out]), if_neg (by rw [Hcc.out]; simp [H2.out]), HSS.out]
      exact HU.out
    · have e2 : (c != 0) = true := by rw [bne_iff_ne]; exact h2
      have H2 := Lib.hid h2
      clear h2
      go_wp2_with fail
      refine (fault_call HBy.out H.out k SS line c).mono ?_
      rintro e z ⟨⟨u, rfl⟩, hR, hF⟩
      go_wp2_with fail
      first | go_end0 | refine bodyPost_ret (results_none rfl _ _ _) rfl ?_
      refine ⟨⟨_, rfl⟩, hF, Lib.hid ?_⟩
      unfold B2Res
      rw [if_neg (by simp [H1.out]), if_pos (by rw [Hcc.out]; exact H2.out), HRS.out, Hcc.out]
      exact hR.out
  · have e1 : (RS.toList == []) = false := by rw [← HRS.out, toList_toL, toL_mkS]; exact beq_list h1
    have H1 := Lib.hid h1
    clear h1
    go_wp2_with fail
    refine (fault_call HBy.out H.out k SS line 12).mono ?_
    rintro e z ⟨⟨u, rfl⟩, hR, hF⟩
    go_wp2_with fail
    first | go_end0 | refine bodyPost_ret (results_none rfl _ _ _) rfl ?_
    refine ⟨⟨_, rfl⟩, hF, Lib.hid ?_⟩
    unfold B2Res
    rw [if_pos H1.out, HRS.out]
    exact hR.out
end Go.Proofs.YtniphdhbgebedaaGreatDoor
