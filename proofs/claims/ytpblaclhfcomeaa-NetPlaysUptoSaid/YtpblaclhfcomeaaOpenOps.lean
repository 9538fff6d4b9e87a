/-
  The law's arguments, laid open: how small they are; the operations.
-/
import Derived.Test.YtpblaclhfcomeaaOpen
import Derived.Test.YtpblaclhfcomeaaFewOps
namespace Go.Proofs.Ytpblaclhfcomeaa
open Go.RowKit Go.ChangeShapes Go.WideShapes Go.Deep

section
variable {H : Type} {enc : TypeId × Value → H} {W : World} {base : Nat} {spare : Nat → Bool} {held : Bool}

theorem pages_small {n : Nat} {v : Value} {x : DataW H × List MemPlace} (h : DataW.trod enc Try.prog W base spare held n 22 [v] = some x) (hb : Rows.uptoBulk x.1 ≤ 1048576) :
    ∃ A ps cap, v = .slice A (List.length ps) cap ∧ PgAt W A cap ps ∧ ∀ p ∈ ps, p.1.size ≤ 1048575 ∧ p.2.length ≤ 1048575 := by
  rcases open_slice Try.underlying22 h with ⟨hv, hy⟩ | ⟨a, len, cap, m, n', D, Pl, hv, _, hl, hm, hmm, hx, hi⟩
  · simp only [List.cons.injEq, and_true] at hv
    exact ⟨none, [], 0, hv, ⟨by simp, by simp, by decide, by simp⟩, by simp⟩
  · simp only [List.cons.injEq, and_true] at hv
    rw [cellsPage] at hi
    have hlm : len ≤ m := by rw [hmm]; split <;> omega
    have hbulk : Rows.uptoBulkAll ((List.range len).map D) ≤ 1048575 := by
      rw [hx] at hb
      change Rows.uptoBulk (DataW.slice _ _) ≤ _ at hb
      rw [bulk_slice] at hb
      omega
    have key : ∀ i, i < len → ∃ p : ByteArray × List UInt8, W.cell? ((a.add (i * 2)).add 0) = some (.string p.1) ∧ p.1.size ≤ maxLen ∧ p.2.length ≤ 140737488351232 ∧ (p.1.size ≤ 1048575 ∧ p.2.length ≤ 1048575) ∧
        ∃ Ai ci, W.cell? ((a.add (i * 2)).add 1) = some (.slice Ai p.2.length ci) ∧ Bs W Ai ci p.2 := by
      intro i hil
      obtain ⟨cs', hc, ht⟩ := hi i (by omega)
      obtain ⟨_, hcl, hat⟩ := World.cells?_some hc
      obtain ⟨xs, n2, _, hD, _, hxl, hf⟩ := DataW.trod_struct Try.underlying33 ht
      have hDi : D i = .agg (xs.map (·.1)) := by simpa using congrArg Prod.fst hD
      have hbi : Rows.uptoBulk (D i) ≤ 1048575 := by
        have := bulk_all_le (l := (List.range len).map D) (d := D i) (List.mem_map.2 ⟨i, List.mem_range.2 hil, rfl⟩)
        omega
      obtain ⟨c0, c1, rfl⟩ := len2 hcl
      obtain ⟨y0, y1, rfl⟩ := len2 hxl
      have f0 := hf 0 _ rfl
      have f1 := hf 1 _ rfl
      simp [cellsStr, cellsBytes] at f0 f1
      obtain ⟨s, hs, hy0, hsz⟩ := DataW.trod_string Try.underlying9 f0
      obtain ⟨A, l, cp, hsl, hbs, hlb⟩ := bytes_of f1
      simp only [List.cons.injEq, and_true] at hs
      rw [hDi, bulk_agg] at hbi
      simp only [List.map_cons, List.map_nil, Rows.uptoBulkAll] at hbi
      rw [hy0] at hbi
      simp only [bulk_str] at hbi
      have hsl2 : s.data.toList.length = s.size := by simp
      refine ⟨(s, l), ?_, hsz, by simp only; omega, ⟨by simp only; omega, by simp only; omega⟩, A, cp, ?_, hbs⟩
      · rw [hat 0 (by omega), hs]; rfl
      · rw [hat 1 (by omega), hsl]; rfl
    obtain ⟨ps, hpl, hq⟩ := list_of len key
    refine ⟨some a, ps, cap, by rw [hpl]; exact hv, ⟨by simp, by omega, hm, fun hp => ?_⟩, ?_⟩
    · obtain ⟨p0, hp0⟩ : ∃ p0, ps[0]? = some p0 := ⟨_, List.getElem?_eq_getElem hp⟩
      have hfl := (hq 0 p0 hp0).1
      have hfl2 : W.cell? (a.add 0) = some (.string p0.1) := by
        have e : (a.add (0 * 2)).add 0 = a.add 0 := by simp [Addr.add]
        rw [e] at hfl
        exact hfl
      obtain ⟨b, o, rfl⟩ := flat hfl2
      refine ⟨b, o, rfl, fun i p hip => ?_⟩
      obtain ⟨q1, q2, q3, _, Ai, ci, q4, q5⟩ := hq i p hip
      rw [add_flat, add_flat] at q1 q4
      exact ⟨q1, q2, q3, Ai, ci, q4, q5⟩
    · intro p hp
      obtain ⟨i, hi⟩ := List.getElem?_of_mem hp
      exact (hq i p hi).2.2.2.1

theorem faults_small {n : Nat} {v : Value} {x : DataW H × List MemPlace} (h : DataW.trod enc Try.prog W base spare held n 23 [v] = some x) (hb : Rows.uptoBulk x.1 ≤ 1048576) :
    ∃ A fs cap, v = .slice A (List.length fs) cap ∧ FtAt W A cap fs ∧ ∀ f ∈ fs, f.u.size ≤ 1048575 ∧ f.data.length ≤ 1048575 := by
  rcases open_slice Try.underlying23 h with ⟨hv, hy⟩ | ⟨a, len, cap, m, n', D, Pl, hv, _, hl, hm, hmm, hx, hi⟩
  · simp only [List.cons.injEq, and_true] at hv
    exact ⟨none, [], 0, hv, ⟨by simp, by simp, by decide, by simp⟩, by simp⟩
  · simp only [List.cons.injEq, and_true] at hv
    rw [cellsFault] at hi
    have hlm : len ≤ m := by rw [hmm]; split <;> omega
    have hbulk : Rows.uptoBulkAll ((List.range len).map D) ≤ 1048575 := by
      rw [hx] at hb
      change Rows.uptoBulk (DataW.slice _ _) ≤ _ at hb
      rw [bulk_slice] at hb
      omega
    have key : ∀ i, i < len → ∃ f : PFault, (f.u.size ≤ 1048575 ∧ f.data.length ≤ 1048575) ∧ f.u.size ≤ maxLen ∧ f.data.length ≤ 140737488351232 ∧ (-9223372036854775808 ≤ f.att ∧ f.att ≤ 9223372036854775807) ∧ (-9223372036854775808 ≤ f.kind ∧ f.kind ≤ 9223372036854775807) ∧
        (-9223372036854775808 ≤ f.n ∧ f.n ≤ 9223372036854775807) ∧
        ∃ Ai ci, Bs W Ai ci f.data ∧ ∀ j, j < 5 → W.cell? ((a.add (i * 5)).add j) = (#[.string f.u, .int .i64 f.att, .int .i64 f.kind, .int .i64 f.n, .slice Ai f.data.length ci] : Array Value)[j]? := by
      intro i hil
      obtain ⟨cs', hc, ht⟩ := hi i (by omega)
      obtain ⟨_, hcl, hat⟩ := World.cells?_some hc
      obtain ⟨xs, n2, _, hD, _, hxl, hf⟩ := DataW.trod_struct Try.underlying38 ht
      have hDi : D i = .agg (xs.map (·.1)) := by simpa using congrArg Prod.fst hD
      have hbi : Rows.uptoBulk (D i) ≤ 1048575 := by
        have := bulk_all_le (l := (List.range len).map D) (d := D i) (List.mem_map.2 ⟨i, List.mem_range.2 hil, rfl⟩)
        omega
      obtain ⟨c0, c1, c2, c3, c4, rfl⟩ := len5 hcl
      obtain ⟨y0, y1, y2, y3, y4, rfl⟩ := len5 hxl
      have f0 := hf 0 _ rfl
      have f1 := hf 1 _ rfl
      have f2 := hf 2 _ rfl
      have f3 := hf 3 _ rfl
      have f4 := hf 4 _ rfl
      simp [cellsStr, cellsBytes, cellsInt] at f0 f1 f2 f3 f4
      obtain ⟨s, hs, hy0, hsz⟩ := DataW.trod_string Try.underlying9 f0
      obtain ⟨z1, hz1, _, w1⟩ := DataW.trod_int Try.underlying3 f1
      obtain ⟨z2, hz2, _, w2⟩ := DataW.trod_int Try.underlying3 f2
      obtain ⟨z3, hz3, _, w3⟩ := DataW.trod_int Try.underlying3 f3
      obtain ⟨A, l, cp, hsl, hbs, hlb⟩ := bytes_of f4
      simp only [List.cons.injEq, and_true] at hs hz1 hz2 hz3
      rw [hDi, bulk_agg] at hbi
      simp only [List.map_cons, List.map_nil, Rows.uptoBulkAll] at hbi
      have b1 : -9223372036854775808 ≤ z1 ∧ z1 ≤ 9223372036854775807 := by simpa [Lit.wf, IntKind.min, IntKind.max, IntKind.signed, IntKind.bits] using w1
      have b2 : -9223372036854775808 ≤ z2 ∧ z2 ≤ 9223372036854775807 := by simpa [Lit.wf, IntKind.min, IntKind.max, IntKind.signed, IntKind.bits] using w2
      have b3 : -9223372036854775808 ≤ z3 ∧ z3 ≤ 9223372036854775807 := by simpa [Lit.wf, IntKind.min, IntKind.max, IntKind.signed, IntKind.bits] using w3
      rw [hy0] at hbi
      simp only [bulk_str] at hbi
      have hsl2 : s.data.toList.length = s.size := by simp
      refine ⟨⟨s, z1, z2, z3, l⟩, ⟨by simp only; omega, by simp only; omega⟩, hsz, by simp only; omega, b1, b2, b3, A, cp, hbs, fun j hj => ?_⟩
      rw [hat j hj, hs, hz1, hz2, hz3, hsl]
      match j, hj with
      | 0, _ => rfl
      | 1, _ => rfl
      | 2, _ => rfl
      | 3, _ => rfl
      | 4, _ => rfl
    obtain ⟨ps, hpl, hq⟩ := list_of len key
    refine ⟨some a, ps, cap, by rw [hpl]; exact hv, ⟨by simp, by omega, hm, fun hp => ?_⟩, ?_⟩
    · obtain ⟨p0, hp0⟩ : ∃ p0, ps[0]? = some p0 := ⟨_, List.getElem?_eq_getElem hp⟩
      obtain ⟨_, _, _, _, _, _, A0, ci0, _, hc0⟩ := hq 0 p0 hp0
      have hfl2 : W.cell? (a.add 0) = some (.string p0.u) := by
        have hfl := hc0 0 (by omega)
        have e : (a.add (0 * 5)).add 0 = a.add 0 := by simp [Addr.add]
        rw [e] at hfl
        exact hfl
      obtain ⟨b, o, rfl⟩ := flat hfl2
      refine ⟨b, o, rfl, fun i p hip => ?_⟩
      obtain ⟨_, q1, q2, q3, q4, q5, Ai, ci, q6, q7⟩ := hq i p hip
      refine ⟨q1, q2, q3, q4, q5, Ai, ci, q6, fun j hj => ?_⟩
      have := q7 j hj
      rw [add_flat, add_flat] at this
      exact this
    · intro p hp
      obtain ⟨i, hi⟩ := List.getElem?_of_mem hp
      exact (hq i p hi).1

theorem len4 {α : Type} : ∀ {l : List α}, l.length = 4 → ∃ x0 x1 x2 x3, l = [x0, x1, x2, x3]
  | [x0, x1, x2, x3], _ => ⟨x0, x1, x2, x3, rfl⟩
theorem len8 {α : Type} : ∀ {l : List α}, l.length = 8 → ∃ x0 x1 x2 x3 x4 x5 x6 x7, l = [x0, x1, x2, x3, x4, x5, x6, x7]
  | [x0, x1, x2, x3, x4, x5, x6, x7], _ => ⟨x0, x1, x2, x3, x4, x5, x6, x7, rfl⟩
theorem cellsOp : Try.prog.cellsOf 55 = 8 := by kernel_rfl
theorem ops_of {n : Nat} {v : Value} {x : DataW H × List MemPlace} (h : DataW.trod enc Try.prog W base spare held n 46 [v] = some x) (hb : Rows.uptoBulk x.1 ≤ 1048576) :
    ∃ A qs cap, v = .slice A (List.length qs) cap ∧ OpAt W A cap qs := by
  rcases open_slice Try.underlying46 h with ⟨hv, hy⟩ | ⟨a, len, cap, m, n', D, Pl, hv, _, hl, hm, hmm, hx, hi⟩
  · simp only [List.cons.injEq, and_true] at hv
    exact ⟨none, [], 0, hv, ⟨by simp, by simp, by decide, by simp⟩⟩
  · simp only [List.cons.injEq, and_true] at hv
    rw [cellsOp] at hi
    have hlm : len ≤ m := by rw [hmm]; split <;> omega
    have hbulk : Rows.uptoBulkAll ((List.range len).map D) ≤ 1048575 := by
      rw [hx] at hb
      change Rows.uptoBulk (DataW.slice _ _) ≤ _ at hb
      rw [bulk_slice] at hb
      omega
    have key : ∀ i, i < len → ∃ q : POp, ((q.u.size ≤ 1048575 ∧ q.b.length ≤ 1048575) ∧ q.f.u.size ≤ 1048575 ∧ q.f.data.length ≤ 1048575) ∧ (-9223372036854775808 ≤ q.kind ∧ q.kind ≤ 9223372036854775807) ∧ (-9223372036854775808 ≤ q.f.att ∧ q.f.att ≤ 9223372036854775807) ∧ (-9223372036854775808 ≤ q.f.kind ∧ q.f.kind ≤ 9223372036854775807) ∧
        (-9223372036854775808 ≤ q.f.n ∧ q.f.n ≤ 9223372036854775807) ∧
        ∃ A c A2 c2, Bs W A c q.b ∧ Bs W A2 c2 q.f.data ∧ ∀ j, j < 8 → W.cell? ((a.add (i * 8)).add j) = (opCells q A c A2 c2)[j]? := by
      intro i hil
      obtain ⟨cs', hc, ht⟩ := hi i (by omega)
      obtain ⟨_, hcl, hat⟩ := World.cells?_some hc
      obtain ⟨xs, n2, _, hD, _, hxl, hf⟩ := DataW.trod_struct Try.underlying55 ht
      have hDi : D i = .agg (xs.map (·.1)) := by simpa using congrArg Prod.fst hD
      have hbi : Rows.uptoBulk (D i) ≤ 1048575 := by
        have := bulk_all_le (l := (List.range len).map D) (d := D i) (List.mem_map.2 ⟨i, List.mem_range.2 hil, rfl⟩)
        omega
      obtain ⟨c0, c1, c2, c3, c4, c5, c6, c7, rfl⟩ := len8 hcl
      obtain ⟨y0, y1, y2, y3, rfl⟩ := len4 hxl
      have f0 := hf 0 _ rfl
      have f1 := hf 1 _ rfl
      have f2 := hf 2 _ rfl
      have f3 := hf 3 _ rfl
      simp [cellsStr, cellsBytes, cellsInt, cellsFault] at f0 f1 f2 f3
      obtain ⟨z0, hz0, _, w0⟩ := DataW.trod_int Try.underlying3 f0
      obtain ⟨s, hs, hy1, hsz⟩ := DataW.trod_string Try.underlying9 f1
      obtain ⟨A, l, cp, hsl, hbs, hlb⟩ := bytes_of f2
      obtain ⟨xs3, n3, _, hD3, _, hxl3, hf3⟩ := DataW.trod_struct Try.underlying38 f3
      have hDi3 : y3.1 = .agg (xs3.map (·.1)) := by rw [hD3]
      obtain ⟨u0, u1, u2, u3, u4, rfl⟩ := len5 hxl3
      have e0 := hf3 0 _ rfl
      have e1 := hf3 1 _ rfl
      have e2 := hf3 2 _ rfl
      have e3 := hf3 3 _ rfl
      have e4 := hf3 4 _ rfl
      simp [cellsStr, cellsBytes, cellsInt] at e0 e1 e2 e3 e4
      obtain ⟨s2, hs2, hu0, hsz2⟩ := DataW.trod_string Try.underlying9 e0
      obtain ⟨z1, hz1, _, w1⟩ := DataW.trod_int Try.underlying3 e1
      obtain ⟨z2, hz2, _, w2⟩ := DataW.trod_int Try.underlying3 e2
      obtain ⟨z3, hz3, _, w3⟩ := DataW.trod_int Try.underlying3 e3
      obtain ⟨A2, l2, cp2, hsl2, hbs2, hlb2⟩ := bytes_of e4
      simp only [List.cons.injEq, and_true] at hs hz0 hz1 hz2 hz3 hs2
      rw [hDi, bulk_agg] at hbi
      simp only [List.map_cons, List.map_nil, Rows.uptoBulkAll] at hbi
      rw [hy1, hDi3, bulk_agg] at hbi
      simp only [List.map_cons, List.map_nil, Rows.uptoBulkAll, bulk_str] at hbi
      rw [hu0] at hbi
      simp only [bulk_str] at hbi
      have hsl3 : s.data.toList.length = s.size := by simp
      have hsl4 : s2.data.toList.length = s2.size := by simp
      have b0 : -9223372036854775808 ≤ z0 ∧ z0 ≤ 9223372036854775807 := by simpa [Lit.wf, IntKind.min, IntKind.max, IntKind.signed, IntKind.bits] using w0
      have b1 : -9223372036854775808 ≤ z1 ∧ z1 ≤ 9223372036854775807 := by simpa [Lit.wf, IntKind.min, IntKind.max, IntKind.signed, IntKind.bits] using w1
      have b2 : -9223372036854775808 ≤ z2 ∧ z2 ≤ 9223372036854775807 := by simpa [Lit.wf, IntKind.min, IntKind.max, IntKind.signed, IntKind.bits] using w2
      have b3 : -9223372036854775808 ≤ z3 ∧ z3 ≤ 9223372036854775807 := by simpa [Lit.wf, IntKind.min, IntKind.max, IntKind.signed, IntKind.bits] using w3
      refine ⟨⟨z0, s, l, ⟨s2, z1, z2, z3, l2⟩⟩, ⟨⟨by simp only; omega, by simp only; omega⟩, by simp only; omega, by simp only; omega⟩, b0, b1, b2, b3, A, cp, A2, cp2, hbs, hbs2, fun j hj => ?_⟩
      rw [hat j hj, hz0, hs, hsl, hs2, hz1, hz2, hz3, hsl2]
      match j, hj with
      | 0, _ => rfl
      | 1, _ => rfl
      | 2, _ => rfl
      | 3, _ => rfl
      | 4, _ => rfl
      | 5, _ => rfl
      | 6, _ => rfl
      | 7, _ => rfl
    obtain ⟨qs, hpl, hq⟩ := list_of len key
    refine ⟨some a, qs, cap, by rw [hpl]; exact hv, ⟨by simp, by omega, hm, fun hp => ?_⟩⟩
    obtain ⟨p0, hp0⟩ : ∃ p0, qs[0]? = some p0 := ⟨_, List.getElem?_eq_getElem hp⟩
    obtain ⟨_, _, _, _, _, A0, ci0, _, _, _, _, hc0⟩ := hq 0 p0 hp0
    have hfl2 : W.cell? (a.add 0) = some (.int .i64 p0.kind) := by
      have hfl := hc0 0 (by omega)
      have e : (a.add (0 * 8)).add 0 = a.add 0 := by simp [Addr.add]
      rw [e] at hfl
      exact hfl
    obtain ⟨b, o, rfl⟩ := flat hfl2
    refine ⟨b, o, rfl, fun i q hiq => ?_⟩
    obtain ⟨⟨⟨s1, s2⟩, s3, s4⟩, k1, k2, k3, k4, A, c, A2, c2, h1, h2, h3⟩ := hq i q hiq
    refine ⟨s1, s2, s3, s4, k1, k2, k3, k4, A, c, A2, c2, h1, h2, fun j hj => ?_⟩
    have := h3 j hj
    rw [add_flat, add_flat] at this
    exact this
end
end Go.Proofs.Ytpblaclhfcomeaa
