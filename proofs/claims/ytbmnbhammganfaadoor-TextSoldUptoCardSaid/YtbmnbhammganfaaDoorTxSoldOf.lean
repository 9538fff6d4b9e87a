/-
  What is sold, handed in, laid open; what was told, handed in, laid open.
-/
import Derived.Test.YtbmnbhammganfaaDoorTxActOf
import Derived.Test.YtbmnbhammganfaaDoorTxSf
namespace Go.Proofs.YtbmnbhammganfaaDoor
open Go.RowKit Go.ChangeShapes Go.WideShapes Go.Deep

theorem list_of {α : Type} {Q : Nat → α → Prop} : ∀ n : Nat, (∀ i, i < n → ∃ p, Q i p) → ∃ ps : List α, ps.length = n ∧ ∀ i p, ps[i]? = some p → Q i p
  | 0, _ => ⟨[], rfl, by simp⟩
  | n + 1, h => by
    obtain ⟨ps, hl, hq⟩ := list_of n fun i hi => h i (by omega)
    obtain ⟨p, hp⟩ := h n (by omega)
    refine ⟨ps ++ [p], by simp [hl], fun i q hi => ?_⟩
    by_cases hlt : i < ps.length
    · rw [List.getElem?_append_left hlt] at hi
      exact hq i q hi
    · rw [List.getElem?_append_right (by omega)] at hi
      have h0 : i = n := by
        have := (List.getElem?_eq_some_iff.1 hi).1
        simp at this
        omega
      subst h0
      simp [hl] at hi
      subst hi
      exact hp
theorem len2 {α : Type} : ∀ {l : List α}, l.length = 2 → ∃ x0 x1, l = [x0, x1]
  | [x0, x1], _ => ⟨x0, x1, rfl⟩
theorem len4 {α : Type} : ∀ {l : List α}, l.length = 4 → ∃ x0 x1 x2 x3, l = [x0, x1, x2, x3]
  | [x0, x1, x2, x3], _ => ⟨x0, x1, x2, x3, rfl⟩
theorem cellsFile : Tryd.prog.cellsOf 67 = 2 := by kernel_rfl
theorem cellsSold : Tryd.prog.cellsOf 60 = 4 := by kernel_rfl
theorem cellsTold : Tryd.prog.cellsOf 62 = 2 := by kernel_rfl
theorem cellsErrI : Tryd.prog.cellsOf 31 = 1 := by kernel_rfl
theorem cellsBool : Tryd.prog.cellsOf 4 = 1 := by kernel_rfl
theorem cellsMod : Tryd.prog.cellsOf 57 = 2 := by kernel_rfl
theorem cellsFiles : Tryd.prog.cellsOf 58 = 1 := by kernel_rfl
section
variable {H : Type} {enc : TypeId × Value → H} {W : World} {base : Nat} {spare : Nat → Bool} {held : Bool}
theorem files_of {n : Nat} {v : Value} {x : DataW H × List MemPlace} (h : DataW.trod enc Tryd.prog W base spare held n 58 [v] = some x) :
    ∃ A ps cap, v = .slice A (List.length ps) cap ∧ FlAt W A cap ps ∧ ps.length ≤ Rows.uptoBulk x.1 ∧ ∀ p ∈ ps, p.1.size ≤ Rows.uptoBulk x.1 ∧ p.2.length ≤ Rows.uptoBulk x.1 := by
  rcases open_slice Tryd.underlying58 h with ⟨hv, hy⟩ | ⟨a, len, cap, m, n', D, Pl, hv, _, hl, hm, hmm, hx, hi⟩
  · simp only [List.cons.injEq, and_true] at hv
    exact ⟨none, [], 0, hv, ⟨by simp, by simp, by decide, by simp⟩, by simp, by simp⟩
  · simp only [List.cons.injEq, and_true] at hv
    rw [cellsFile] at hi
    have hlm : len ≤ m := by rw [hmm]; split <;> omega
    have hbx : ∀ i, i < len → Rows.uptoBulk (D i) ≤ Rows.uptoBulk x.1 := fun i hil => by
      rw [hx]
      show _ ≤ Rows.uptoBulk (DataW.slice _ _)
      rw [bulk_slice, bulk_sum]
      have := mem_le_sum (x := Rows.uptoBulk (D i)) (l := ((List.range len).map D).map Rows.uptoBulk) (List.mem_map.2 ⟨D i, List.mem_map.2 ⟨i, List.mem_range.2 hil, rfl⟩, rfl⟩)
      omega
    have hlx : len ≤ Rows.uptoBulk x.1 := by
      rw [hx]
      show _ ≤ Rows.uptoBulk (DataW.slice _ _)
      rw [bulk_slice]
      have := bulk_len ((List.range len).map D)
      rw [List.length_map, List.length_range] at this
      omega
    have key : ∀ i, i < len → ∃ p : ByteArray × List UInt8, W.cell? ((a.add (i * 2)).add 0) = some (.string p.1) ∧ (p.1.size ≤ Rows.uptoBulk x.1 ∧ p.2.length ≤ Rows.uptoBulk x.1) ∧
        ∃ Ai ci, W.cell? ((a.add (i * 2)).add 1) = some (.slice Ai p.2.length ci) ∧ Bs W Ai ci p.2 := by
      intro i hil
      obtain ⟨cs', hc, ht⟩ := hi i (by omega)
      obtain ⟨_, hcl, hat⟩ := World.cells?_some hc
      obtain ⟨xs, n2, _, hD, _, hxl, hf⟩ := DataW.trod_struct Tryd.underlying67 ht
      obtain ⟨c0, c1, rfl⟩ := len2 hcl
      obtain ⟨y0, y1, rfl⟩ := len2 hxl
      have hbi := hbx i hil
      have hDi : D i = .agg ([y0, y1].map (·.1)) := by simpa using congrArg Prod.fst hD
      rw [hDi, bulk_agg, bulk_sum] at hbi
      simp only [List.map_cons, List.map_nil, List.sum_cons, List.sum_nil] at hbi
      have f0 := hf 0 _ rfl
      have f1 := hf 1 _ rfl
      simp [cellsStr, cellsBytes] at f0 f1
      obtain ⟨s, hs, hy0, hsz⟩ := DataW.trod_string Tryd.underlying9 f0
      obtain ⟨A, l, cp, hsl, hbs, hbl⟩ := bytes_bulk f1
      simp only [List.cons.injEq, and_true] at hs
      rw [hy0] at hbi
      simp only [bulk_str] at hbi
      refine ⟨(s, l), ?_, ⟨?_, by simp only; omega⟩, A, cp, ?_, hbs⟩
      · rw [hat 0 (by omega), hs]; rfl
      · have h2 := toL_len s
        simp only [toL] at h2
        simp only
        omega
      · rw [hat 1 (by omega), hsl]; rfl
    obtain ⟨ps, hpl, hq⟩ := list_of len key
    refine ⟨some a, ps, cap, by rw [hpl]; exact hv, ⟨by simp, by omega, hm, fun hp => ?_⟩, by rw [hpl]; exact hlx, ?_⟩
    · obtain ⟨p0, hp0⟩ : ∃ p0, ps[0]? = some p0 := ⟨_, List.getElem?_eq_getElem hp⟩
      have hfl := (hq 0 p0 hp0).1
      have hfl2 : W.cell? (a.add 0) = some (.string p0.1) := by
        have e : (a.add (0 * 2)).add 0 = a.add 0 := by simp [Addr.add]
        rw [e] at hfl
        exact hfl
      obtain ⟨b, o, rfl⟩ := flat hfl2
      refine ⟨b, o, rfl, fun i p hip => ?_⟩
      obtain ⟨q1, q2, Ai, ci, q4, q5⟩ := hq i p hip
      rw [add_flat, add_flat] at q1 q4
      exact ⟨q1, Ai, ci, q4, q5⟩
    · intro p hp
      obtain ⟨i, hi⟩ := List.getElem?_of_mem hp
      exact (hq i p hi).2.1
theorem sold_of {v : Value} {d : DataW H} {ps : List MemPlace} (h : DataW.Trod enc Tryd.prog W base spare held 60 v d ps) (hb : Rows.uptoBulk d ≤ 1048576) :
    ∃ (V : Array Value) (q : SoldD), v = .agg V ∧ SoBox W V q ∧ SoldOk q := by
  obtain ⟨fuel, h⟩ := h
  obtain ⟨xs, n2, _, hD, hcl, hxl, hf⟩ := DataW.trod_struct Tryd.underlying60 h
  rw [cellsSold] at hcl
  have hv : v = .agg v.cells.toList.toArray := by
    cases v <;> first | (simp [Value.cells] at hcl; done) | simp [Value.cells]
  generalize v.cells.toList = cs at *
  subst hv
  have hDi : d = .agg (xs.map (·.1)) := by simpa using congrArg Prod.fst hD
  obtain ⟨e0, e1, e2, e3, rfl⟩ := len4 hcl
  obtain ⟨y0, y1, y2, rfl⟩ := len3 hxl
  rw [hDi, bulk_agg, bulk_sum] at hb
  simp only [List.map_cons, List.map_nil, List.sum_cons, List.sum_nil] at hb
  have f0 := hf 0 _ rfl
  have f1 := hf 1 _ rfl
  have f2 := hf 2 _ rfl
  simp [cellsBytes, cellsMod, cellsFiles] at f0 f1 f2
  obtain ⟨A3, l3, k3, hl3, hb3, hn3⟩ := bytes_bulk f1
  obtain ⟨A4, l4, k4, hl4, hb4, hn4, hs4⟩ := files_of f2
  obtain ⟨xc, nc, _, hDc, _, hxlc, hfc⟩ := DataW.trod_struct Tryd.underlying57 f0
  obtain ⟨g0, g1, rfl⟩ := len2 hxlc
  have u0 := hfc 0 _ rfl
  have u1 := hfc 1 _ rfl
  simp [cellsStr] at u0 u1
  obtain ⟨sp, hsp, hyp, _⟩ := DataW.trod_string Tryd.underlying9 u0
  obtain ⟨sv, hsv, hyv, _⟩ := DataW.trod_string Tryd.underlying9 u1
  simp only [List.cons.injEq, and_true] at hsp hsv
  rw [hDc] at hb
  simp only [bulk_agg, bulk_sum, List.map_cons, List.map_nil, List.sum_cons, List.sum_nil] at hb
  rw [hyp, hyv] at hb
  simp only [bulk_str] at hb
  have h2 := toL_len sp
  have h3 := toL_len sv
  simp only [toL] at h2 h3
  refine ⟨_, ⟨sp, sv, l3, l4⟩, rfl, ⟨A3, k3, A4, k4, ?_, hb3, hb4⟩, ⟨?_, ?_, ?_, fun p hp => ?_, ?_⟩⟩
  · unfold sV
    simp only
    rw [hsp, hsv, hl3, hl4]
  · simp only; omega
  · simp only; omega
  · simp only; omega
  · have h4 := hs4 p hp
    omega
  · simp only; omega
theorem told_of {v : Value} {d : DataW H} {ps : List MemPlace} (h : DataW.Trod enc Tryd.prog W base spare held 62 v d ps) :
    ∃ (n : Int) (y : Bool), v = .agg #[.int .i64 n, .bool y] ∧ -9223372036854775808 ≤ n ∧ n ≤ 9223372036854775807 := by
  obtain ⟨fuel, h⟩ := h
  obtain ⟨xs, n2, _, hD, hcl, hxl, hf⟩ := DataW.trod_struct Tryd.underlying62 h
  rw [cellsTold] at hcl
  have hv : v = .agg v.cells.toList.toArray := by
    cases v <;> first | (simp [Value.cells] at hcl; done) | simp [Value.cells]
  generalize v.cells.toList = cs at *
  subst hv
  obtain ⟨e0, e1, rfl⟩ := len2 hcl
  obtain ⟨y0, y1, rfl⟩ := len2 hxl
  have f0 := hf 0 _ rfl
  have f1 := hf 1 _ rfl
  simp [cellsErrI, cellsBool] at f0 f1
  obtain ⟨z0, hz0, _, w0⟩ := DataW.trod_int Tryd.underlying31 f0
  obtain ⟨b, hb, _⟩ := DataW.trod_bool Tryd.underlying4 f1
  simp only [List.cons.injEq, and_true] at hz0 hb
  have r : -9223372036854775808 ≤ z0 ∧ z0 ≤ 9223372036854775807 := by simpa [Lit.wf, IntKind.min, IntKind.max, IntKind.signed, IntKind.bits] using w0
  exact ⟨z0, b, by rw [hz0, hb], r⟩
end
end Go.Proofs.YtbmnbhammganfaaDoor
