/-
  Same: are two acts the same?
-/
import Derived.Test.YtbmnbhammganfaaDoorTxSa0
namespace Go.Proofs.YtbmnbhammganfaaDoor
open Go.RowKit Go.Maps

set_option linter.unusedSimpArgs false

attribute [local go_sem] lt1 lt2 lt3 lt4 lt5 lt6

instance : DecidableEq ActD := fun a b => by
  cases a; cases b
  simp only [ActD.mk.injEq]
  exact inferInstance
theorem below_two {w : World} (x y : Obj) (n : Nat) : Below w.heap.size w (((w.alloc x).alloc y).drewN n) :=
  below_drewN (((Below.refl w.heap.size w).alloc (Nat.le_refl _) x).alloc (((Below.refl w.heap.size w).alloc (Nat.le_refl _) x).size) y) n
set_option maxRecDepth 100000 in
set_option maxHeartbeats 8000000 in
theorem sameAct_any (w : World) (a b : ActD) (A1 A2 B1 B2 : Option Addr) (c1 c2 d1 d2 : Nat) (h1 : Bs w A1 c1 a.data) (h2 : Bs w A2 c2 a.fdata) (h3 : Bs w B1 d1 b.data) (h4 : Bs w B2 d2 b.fdata) :
    Calls Tryd.prog 13 #[.agg (actV a (.slice A1 a.data.length c1) (.slice A2 a.fdata.length c2)).toArray, .agg (actV b (.slice B1 b.data.length d1) (.slice B2 b.fdata.length d2)).toArray] w fun e w' => e = .returned (.bool (decide (a = b))) ∧ Below w.heap.size w w' := by
  unfold actV
  obtain ⟨kind, ck, path, ver, name, data, n, m, url, att, fk, fn, fdata⟩ := a
  obtain ⟨kind', ck', path', ver', name', data', n', m', url', att', fk', fn', fdata'⟩ := b
  simp only at h1 h2 h3 h4 ⊢
  have H1 := Lib.hid h1
  have H2 := Lib.hid h2
  have H3 := Lib.hid h3
  have H4 := Lib.hid h4
  clear h1 h2 h3 h4
  obtain ⟨P1, hP1⟩ : ∃ x, x = mkS path := ⟨_, rfl⟩
  obtain ⟨P2, hP2⟩ : ∃ x, x = mkS ver := ⟨_, rfl⟩
  obtain ⟨P3, hP3⟩ : ∃ x, x = mkS name := ⟨_, rfl⟩
  obtain ⟨P4, hP4⟩ : ∃ x, x = mkS url := ⟨_, rfl⟩
  obtain ⟨Q1, hQ1⟩ : ∃ x, x = mkS path' := ⟨_, rfl⟩
  obtain ⟨Q2, hQ2⟩ : ∃ x, x = mkS ver' := ⟨_, rfl⟩
  obtain ⟨Q3, hQ3⟩ : ∃ x, x = mkS name' := ⟨_, rfl⟩
  obtain ⟨Q4, hQ4⟩ : ∃ x, x = mkS url' := ⟨_, rfl⟩
  rw [← hP1, ← hP2, ← hP3, ← hP4, ← hQ1, ← hQ2, ← hQ3, ← hQ4]
  have e1 : P1.toList = path := by rw [hP1, toList_toL, toL_mkS]
  have e2 : P2.toList = ver := by rw [hP2, toList_toL, toL_mkS]
  have e3 : P3.toList = name := by rw [hP3, toList_toL, toL_mkS]
  have e4 : P4.toList = url := by rw [hP4, toList_toL, toL_mkS]
  have f1 : Q1.toList = path' := by rw [hQ1, toList_toL, toL_mkS]
  have f2 : Q2.toList = ver' := by rw [hQ2, toList_toL, toL_mkS]
  have f3 : Q3.toList = name' := by rw [hQ3, toList_toL, toL_mkS]
  have f4 : Q4.toList = url' := by rw [hQ4, toList_toL, toL_mkS]
  clear hP1 hP2 hP3 hP4 hQ1 hQ2 hQ3 hQ4
  go_enter Tryd.func13, Tryd.ntmps13
  go_wp2_with fail
  have HB2 := Lib.hid (below_two (w := w) (.cells #[.int .i64 kind, .int .i64 ck, .string P1, .string P2, .string P3, .slice A1 data.length c1, .int .i64 n, .int .i64 m, .string P4, .int .i64 att, .int .i64 fk, .int .i64 fn, .slice A2 fdata.length c2] 28) (.cells #[.int .i64 kind', .int .i64 ck', .string Q1, .string Q2, .string Q3, .slice B1 data'.length d1, .int .i64 n', .int .i64 m', .string Q4, .int .i64 att', .int .i64 fk', .int .i64 fn', .slice B2 fdata'.length d2] 28) 0)
  refine (same_any data data' A1 B1 c1 d1 _ (H1.out.keep (Cells.of_below HB2.out)) (H3.out.keep (Cells.of_below HB2.out))).mono ?_
  rintro e w1 ⟨rfl, n1, rfl⟩
  by_cases hx : data = data'
  · have hb1 : (data == data') = true := beq_iff_eq.2 hx
    rw [hb1]
    have Hx := Lib.hid hx
    clear hx hb1
    go_wp2_with fail
    refine (same_any fdata fdata' A2 B2 c2 d2 _ (H2.out.keep (Cells.of_below (below_drewN HB2.out _))) (H4.out.keep (Cells.of_below (below_drewN HB2.out _)))).mono ?_
    rintro e w1 ⟨rfl, n2, rfl⟩
    have Hb := Lib.hid (below_drewN (below_drewN HB2.out n1) n2)
    obtain ⟨bb, hbb⟩ : ∃ x, x = (fdata == fdata') := ⟨_, rfl⟩
    rw [← hbb]
    have Hbb := Lib.hid hbb
    clear hbb HB2
    go_wp2_with fail
    all_goals (go_ret; refine ⟨bool_ret ?_, below_two _ _ _⟩; (have hx := Hx.out; have hbb := Hbb.out; clear Hx Hbb Hb H1 H2 H3 H4; simp_all [ActD.mk.injEq] <;> rfl))
  · have hb1 : (data == data') = false := beq_eq_false_iff_ne.2 hx
    rw [hb1]
    have Hx := Lib.hid hx
    have Hb := Lib.hid (below_drewN HB2.out n1)
    clear hx hb1 HB2
    go_wp2_with fail
    all_goals (go_ret; refine ⟨bool_ret ?_, below_two _ _ _⟩; (have hx := Hx.out; clear Hx Hb H1 H2 H3 H4; simp_all [ActD.mk.injEq] <;> rfl))
end Go.Proofs.YtbmnbhammganfaaDoor
