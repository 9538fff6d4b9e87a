/-
  Acts in memory, boxed: ParseAct's answer, Same and FormatAct of it.
  few: is an act small?
-/
import Derived.Test.YtbmnbhammganfaaDoorTxPa
import Derived.Test.YtbmnbhammganfaaDoorH4
namespace Go.Proofs.YtbmnbhammganfaaDoor
open Go.RowKit Go.Maps

/-- the cells of an act -/
def ActBox (w : World) (V : Array Value) (a : ActD) : Prop := ∃ A1 c1 A2 c2, V = (actV a (.slice A1 a.data.length c1) (.slice A2 a.fdata.length c2)).toArray ∧ Bs w A1 c1 a.data ∧ Bs w A2 c2 a.fdata
theorem ActBox.keep {w w' : World} {V : Array Value} {a : ActD} (h : ActBox w V a) (hc : Cells w w') : ActBox w' V a := by
  obtain ⟨A1, c1, A2, c2, h0, h1, h2⟩ := h
  exact ⟨A1, c1, A2, c2, h0, h1.keep hc, h2.keep hc⟩
theorem ActBox.size {w : World} {V : Array Value} {a : ActD} (h : ActBox w V a) : (Tryd.prog.info? 28).map (·.size) = some V.size := by
  obtain ⟨A1, c1, A2, c2, rfl, h1, h2⟩ := h
  exact sizeAct
theorem ActBox.zsize {w : World} {V : Array Value} {a : ActD} (h : ActBox w V a) : (actV zAct nilV nilV).toArray.size = V.size := by
  obtain ⟨A1, c1, A2, c2, rfl, h1, h2⟩ := h
  rfl
theorem ActBox.one {w : World} {V : Array Value} {a : ActD} (h : ActBox w V a) : V.all (·.oneCell') = true := by
  obtain ⟨A1, c1, A2, c2, rfl, h1, h2⟩ := h
  exact all_oneCell_toArray (actV_one rfl rfl)
theorem ActBox.same {w : World} {V U : Array Value} {a b : ActD} (h : ActBox w V a) (k : ActBox w U b) : Calls Tryd.prog 13 #[.agg V, .agg U] w fun e w' => e = .returned (.bool (decide (a = b))) ∧ Below w.heap.size w w' := by
  obtain ⟨A1, c1, A2, c2, rfl, h1, h2⟩ := h
  obtain ⟨B1, d1, B2, d2, rfl, k1, k2⟩ := k
  exact sameAct_any w a b A1 A2 B1 B2 c1 c2 d1 d2 h1 h2 k1 k2
theorem ActBox.alike {w : World} {V U : Array Value} {a : ActD} (h : ActBox w V a) (k : ActBox w U a) : Calls Tryd.prog 13 #[.agg V, .agg U] w fun e w' => e = .returned (.bool true) ∧ Below w.heap.size w w' := by
  refine (h.same k).mono ?_
  rintro e w' ⟨rfl, hB⟩
  exact ⟨bool_ret (decide_eq_true rfl).symm, hB⟩
theorem texts_self (x : List ByteArray) (A1 A2 : Option Addr) (c1 c2 : Nat) (w : World) (h1 : Sl w A1 c1 x.length 1 (x.map Value.string)) (h2 : Sl w A2 c2 x.length 1 (x.map Value.string)) :
    Calls Tryd.prog 16 #[.slice A1 x.length c1, .slice A2 x.length c2] w fun e w' => e = .returned (.bool true) ∧ Below w.heap.size w w' := by
  refine (texts_any x x A1 A2 c1 c2 w h1 h2).mono ?_
  rintro e w' ⟨rfl, n, rfl⟩
  exact ⟨bool_ret (decide_eq_true rfl).symm, below_drewN (Below.refl _ _) n⟩
theorem parse_box (s : ByteArray) (hl : s.size ≤ 1048576) {w : World} (hw : Lw w) : Calls Tryd.prog 12 #[.string s] w fun e w' => ∃ V, e = .returned (.tuple #[.agg V, .int .i64 (parseA (toL s)).2]) ∧ ActBox w' V (parseA (toL s)).1 ∧ Below w.heap.size w w' := by
  refine (parseAct_any s hl hw).mono ?_
  rintro e w' ⟨a, dv, fv, rfl, ha, hd1, hd2, hB⟩
  obtain ⟨A1, c1, rfl, h1⟩ := hd1.form
  obtain ⟨A2, c2, rfl, h2⟩ := hd2.form
  exact ⟨_, rfl, ⟨A1, c1, A2, c2, by rw [← ha], by rw [← ha]; exact h1, by rw [← ha]; exact h2⟩, hB⟩
theorem ActBox.lit {w : World} {V : Array Value} {a : ActD} (h : ActBox w V a) : ∃ v0 v1 v2 v3 v4 v5 v6 v7 v8 v9 v10 v11 v12, V = #[v0, v1, v2, v3, v4, v5, v6, v7, v8, v9, v10, v11, v12] := by
  obtain ⟨A1, c1, A2, c2, rfl, h1, h2⟩ := h
  exact ⟨_, _, _, _, _, _, _, _, _, _, _, _, _, rfl⟩
theorem row13 {w : World} {b : Nat} {t : TypeId} {v0 v1 v2 v3 v4 v5 v6 v7 v8 v9 v10 v11 v12 : Value} (h : w.heap[b]? = some (.cells #[v0, v1, v2, v3, v4, v5, v6, v7, v8, v9, v10, v11, v12] t (0, 0))) : w.cell? ⟨b, 0, none⟩ = some v0 ∧ w.cell? ⟨b, 1, none⟩ = some v1 ∧ w.cell? ⟨b, 2, none⟩ = some v2 ∧ w.cell? ⟨b, 3, none⟩ = some v3 ∧ w.cell? ⟨b, 4, none⟩ = some v4 ∧ w.cell? ⟨b, 5, none⟩ = some v5 ∧ w.cell? ⟨b, 6, none⟩ = some v6 ∧ w.cell? ⟨b, 7, none⟩ = some v7 ∧ w.cell? ⟨b, 8, none⟩ = some v8 ∧ w.cell? ⟨b, 9, none⟩ = some v9 ∧ w.cell? ⟨b, 10, none⟩ = some v10 ∧ w.cell? ⟨b, 11, none⟩ = some v11 ∧ w.cell? ⟨b, 12, none⟩ = some v12 := by
  have hc := (blk_cells h).1
  exact ⟨hc 0, hc 1, hc 2, hc 3, hc 4, hc 5, hc 6, hc 7, hc 8, hc 9, hc 10, hc 11, hc 12⟩
end Go.Proofs.YtbmnbhammganfaaDoor
namespace Go.Proofs.YtbmnbhammganfaaDoor
open Go.RowKit Go.Maps

set_option linter.unusedSimpArgs false

attribute [local go_sem] lt1 lt2 lt3 lt4 lt5 lt6

set_option maxRecDepth 100000 in
set_option maxHeartbeats 8000000 in
theorem few_any (w : World) (a : ActD) (ha : ActOk a) (A1 A2 : Option Addr) (c1 c2 : Nat) :
    Calls Tryd.prog 9 #[.agg (actV a (.slice A1 a.data.length c1) (.slice A2 a.fdata.length c2)).toArray] w fun e w' => (∃ b, e = .returned (.bool b)) ∧ Below w.heap.size w w' := by
  unfold actV
  obtain ⟨kind, ck, path, ver, name, data, n, m, url, att, fk, fn, fdata⟩ := a
  obtain ⟨k1, k2, k3, k4, k5, k6, -, -, -, -, -⟩ := ha
  simp only at k1 k2 k3 k4 k5 k6 ⊢
  obtain ⟨P1, hP1⟩ : ∃ x, x = mkS path := ⟨_, rfl⟩
  obtain ⟨P2, hP2⟩ : ∃ x, x = mkS ver := ⟨_, rfl⟩
  obtain ⟨P3, hP3⟩ : ∃ x, x = mkS name := ⟨_, rfl⟩
  obtain ⟨P4, hP4⟩ : ∃ x, x = mkS url := ⟨_, rfl⟩
  rw [← hP1, ← hP2, ← hP3, ← hP4]
  have e1 : P1.size ≤ 1048576 := by rw [hP1, mkS_size]; exact k1
  have e2 : P2.size ≤ 1048576 := by rw [hP2, mkS_size]; exact k2
  have e3 : P3.size ≤ 1048576 := by rw [hP3, mkS_size]; exact k3
  have e4 : P4.size ≤ 1048576 := by rw [hP4, mkS_size]; exact k4
  clear hP1 hP2 hP3 hP4 k1 k2 k3 k4
  generalize data.length = L1 at *
  generalize fdata.length = L2 at *
  go_enter Tryd.func9, Tryd.ntmps9
  go_wp2_with fail
  go_ret
  exact ⟨⟨_, rfl⟩, (Below.refl _ _).alloc (Nat.le_refl _) _⟩
theorem ActBox.few {w : World} {V : Array Value} {a : ActD} (h : ActBox w V a) (ha : ActOk a) : Calls Tryd.prog 9 #[.agg V] w fun e w' => (∃ b, e = .returned (.bool b)) ∧ Below w.heap.size w w' := by
  obtain ⟨A1, c1, A2, c2, rfl, h1, h2⟩ := h
  exact few_any w a ha A1 A2 c1 c2
end Go.Proofs.YtbmnbhammganfaaDoor
