/-
  An act handed in, laid open.
-/
import Derived.Test.YtbmnbhammganfaaDoorTxOpens
import Derived.Test.YtbmnbhammganfaaDoorH6
namespace Go.Proofs.YtbmnbhammganfaaDoor
open Go.RowKit Go.ChangeShapes Go.WideShapes Go.Deep

theorem len3 {α : Type} : ∀ {l : List α}, l.length = 3 → ∃ x0 x1 x2, l = [x0, x1, x2]
  | [x0, x1, x2], _ => ⟨x0, x1, x2, rfl⟩
theorem len5 {α : Type} : ∀ {l : List α}, l.length = 5 → ∃ x0 x1 x2 x3 x4, l = [x0, x1, x2, x3, x4]
  | [x0, x1, x2, x3, x4], _ => ⟨x0, x1, x2, x3, x4, rfl⟩
theorem len7 {α : Type} : ∀ {l : List α}, l.length = 7 → ∃ x0 x1 x2 x3 x4 x5 x6, l = [x0, x1, x2, x3, x4, x5, x6]
  | [x0, x1, x2, x3, x4, x5, x6], _ => ⟨x0, x1, x2, x3, x4, x5, x6, rfl⟩
theorem len13 {α : Type} : ∀ {l : List α}, l.length = 13 → ∃ x0 x1 x2 x3 x4 x5 x6 x7 x8 x9 x10 x11 x12, l = [x0, x1, x2, x3, x4, x5, x6, x7, x8, x9, x10, x11, x12]
  | [x0, x1, x2, x3, x4, x5, x6, x7, x8, x9, x10, x11, x12], _ => ⟨x0, x1, x2, x3, x4, x5, x6, x7, x8, x9, x10, x11, x12, rfl⟩
theorem cellsAct : Tryd.prog.cellsOf 28 = 13 := by kernel_rfl
theorem cellsCmd : Tryd.prog.cellsOf 23 = 3 := by kernel_rfl
theorem cellsFault : Tryd.prog.cellsOf 26 = 5 := by kernel_rfl
theorem cellsInt : Tryd.prog.cellsOf 3 = 1 := by kernel_rfl
theorem cellsBytes : Tryd.prog.cellsOf 24 = 1 := by kernel_rfl
section
variable {H : Type} {enc : TypeId × Value → H} {W : World} {base : Nat} {spare : Nat → Bool} {held : Bool}

theorem act_of {v : Value} {d : DataW H} {ps : List MemPlace} (h : DataW.Trod enc Tryd.prog W base spare held 28 v d ps) (hb : Rows.uptoBulk d ≤ 1048576) :
    ∃ a A1 c1 A2 c2, v = .agg (actV a (.slice A1 a.data.length c1) (.slice A2 a.fdata.length c2)).toArray ∧ Bs W A1 c1 a.data ∧ Bs W A2 c2 a.fdata ∧ ActOk a := by
  obtain ⟨fuel, h⟩ := h
  obtain ⟨xs, n2, _, hD, hcl, hxl, hf⟩ := DataW.trod_struct Tryd.underlying28 h
  rw [cellsAct] at hcl
  have hv : v = .agg v.cells.toList.toArray := by
    cases v <;> first | (simp [Value.cells] at hcl; done) | simp [Value.cells]
  generalize v.cells.toList = cs at *
  subst hv
  have hDi : d = .agg (xs.map (·.1)) := by simpa using congrArg Prod.fst hD
  obtain ⟨e0, e1, e2, e3, e4, e5, e6, e7, e8, e9, e10, e11, e12, rfl⟩ := len13 hcl
  obtain ⟨y0, y1, y2, y3, y4, y5, y6, rfl⟩ := len7 hxl
  rw [hDi, bulk_agg, bulk_sum] at hb
  simp only [List.map_cons, List.map_nil, List.sum_cons, List.sum_nil] at hb
  have f0 := hf 0 _ rfl
  have f1 := hf 1 _ rfl
  have f2 := hf 2 _ rfl
  have f3 := hf 3 _ rfl
  have f4 := hf 4 _ rfl
  have f5 := hf 5 _ rfl
  have f6 := hf 6 _ rfl
  simp [cellsStr, cellsBytes, cellsInt, cellsCmd, cellsFault] at f0 f1 f2 f3 f4 f5 f6
  obtain ⟨z0, hz0, _, w0⟩ := DataW.trod_int Tryd.underlying3 f0
  obtain ⟨s2, hs2, hy2, _⟩ := DataW.trod_string Tryd.underlying9 f2
  obtain ⟨A3, l3, k3, hl3, hb3, hn3⟩ := bytes_bulk f3
  obtain ⟨z4, hz4, _, w4⟩ := DataW.trod_int Tryd.underlying3 f4
  obtain ⟨z5, hz5, _, w5⟩ := DataW.trod_int Tryd.underlying3 f5
  obtain ⟨xc, nc, _, hDc, _, hxlc, hfc⟩ := DataW.trod_struct Tryd.underlying23 f1
  obtain ⟨xf, nf, _, hDf, _, hxlf, hff⟩ := DataW.trod_struct Tryd.underlying26 f6
  obtain ⟨g0, g1, g2, rfl⟩ := len3 hxlc
  obtain ⟨k0, k1, k2, k33, k4, rfl⟩ := len5 hxlf
  have u0 := hfc 0 _ rfl
  have u1 := hfc 1 _ rfl
  have u2 := hfc 2 _ rfl
  simp [cellsStr, cellsInt] at u0 u1 u2
  have v0 := hff 0 _ rfl
  have v1 := hff 1 _ rfl
  have v2 := hff 2 _ rfl
  have v3 := hff 3 _ rfl
  have v4 := hff 4 _ rfl
  simp [cellsStr, cellsBytes, cellsInt] at v0 v1 v2 v3 v4
  obtain ⟨zc, hzc, _, wc⟩ := DataW.trod_int Tryd.underlying3 u0
  obtain ⟨sp, hsp, hyp, _⟩ := DataW.trod_string Tryd.underlying9 u1
  obtain ⟨sv, hsv, hyv, _⟩ := DataW.trod_string Tryd.underlying9 u2
  obtain ⟨su, hsu, hyu, _⟩ := DataW.trod_string Tryd.underlying9 v0
  obtain ⟨za, hza, _, wa⟩ := DataW.trod_int Tryd.underlying3 v1
  obtain ⟨zk, hzk, _, wk⟩ := DataW.trod_int Tryd.underlying3 v2
  obtain ⟨zn, hzn, _, wn⟩ := DataW.trod_int Tryd.underlying3 v3
  obtain ⟨A4, l4, c4, hl4, hb4, hn4⟩ := bytes_bulk v4
  simp only [List.cons.injEq, and_true] at hz0 hs2 hz4 hz5 hzc hsp hsv hsu hza hzk hzn
  rw [hDc, hDf, hy2] at hb
  simp only [bulk_agg, bulk_sum, List.map_cons, List.map_nil, List.sum_cons, List.sum_nil] at hb
  rw [hyp, hyv, hyu] at hb
  simp only [bulk_str] at hb
  have r : ∀ z : Int, (Lit.int .i64 z).wf = true → -9223372036854775808 ≤ z ∧ z ≤ 9223372036854775807 := fun z hz => by simpa [Lit.wf, IntKind.min, IntKind.max, IntKind.signed, IntKind.bits] using hz
  refine ⟨⟨z0, zc, toL sp, toL sv, toL s2, l3, z4, z5, toL su, za, zk, zn, l4⟩, A3, k3, A4, c4, ?_, hb3, hb4, ⟨?_, ?_, ?_, ?_, ?_, ?_, r _ w4, r _ w5, r _ wa, r _ wn, r _ wk⟩⟩
  · unfold actV
    simp only [mkS_toL]
    rw [hz0, hzc, hsp, hsv, hs2, hl3, hz4, hz5, hsu, hza, hzk, hzn, hl4]
  all_goals (simp only [toL] at hb ⊢; omega)
end
end Go.Proofs.YtbmnbhammganfaaDoor
