/-
  The laws' arguments, laid open: bulk; a slice of bytes; a slice of operations.
-/
import Derived.Test.YtaolddgnannojaaDoorFsOpens
import Derived.Test.YtaolddgnannojaaDoorFsFew
namespace Go.Proofs.YtaolddgnannojaaDoor
open Go.RowKit Go.ChangeShapes Go.WideShapes Go.Deep

theorem bulk_pos {H : Type} (d : DataW H) : 1 ≤ Rows.uptoBulk d := by
  cases d with
  | lit l => cases l <;> simp [Rows.uptoBulk]
  | _ => simp [Rows.uptoBulk]
theorem bulk_len {H : Type} : ∀ l : List (DataW H), l.length ≤ Rows.uptoBulkAll l
  | [] => by simp
  | x :: r => by have := bulk_len r; have := bulk_pos x; simp only [Rows.uptoBulkAll, List.length_cons]; omega
theorem bulk_slice {H : Type} (e s : List (DataW H)) : Rows.uptoBulk (.slice e s) = Rows.uptoBulkAll e + Rows.uptoBulkAll s + 1 := by simp only [Rows.uptoBulk]
theorem bulk_agg {H : Type} (e : List (DataW H)) : Rows.uptoBulk (.agg e) = Rows.uptoBulkAll e + 1 := by simp only [Rows.uptoBulk]
theorem bulk_str {H : Type} (b : List UInt8) : Rows.uptoBulk (DataW.lit (H := H) (.string b)) = b.length + 1 := by simp [Rows.uptoBulk]
theorem bulk_sum {H : Type} : ∀ l : List (DataW H), Rows.uptoBulkAll l = (l.map Rows.uptoBulk).sum
  | [] => by simp [Rows.uptoBulkAll]
  | x :: r => by simp only [Rows.uptoBulkAll, List.map_cons, List.sum_cons]; rw [bulk_sum r]
theorem mem_le_sum {x : Nat} : ∀ {l : List Nat}, x ∈ l → x ≤ l.sum
  | y :: r, h => by
    rw [List.sum_cons]
    rcases List.mem_cons.1 h with rfl | h
    · omega
    · have := mem_le_sum h; omega
section
variable {H : Type} {enc : TypeId × Value → H} {W : World} {base : Nat} {spare : Nat → Bool} {held : Bool}

theorem bytes_bulk {n : Nat} {v : Value} {y : DataW H × List MemPlace} (h : DataW.trod enc Tryd.prog W base spare held n 22 [v] = some y) :
    ∃ A l cap, v = .slice A l.length cap ∧ Bs W A cap l ∧ l.length + 1 ≤ Rows.uptoBulk y.1 := by
  obtain ⟨A, l, cap, hv, hb⟩ := bytes_of h
  refine ⟨A, l, cap, hv, hb, ?_⟩
  rcases open_ints Tryd.underlying22 Tryd.underlying5 cellsU8 h with ⟨hv2, hy⟩ | ⟨a, len, cap2, zs, hv2, _, hl, hm, hz, hy, hcell, hwf⟩
  · simp only [List.cons.injEq, and_true] at hv2
    rw [hv] at hv2
    simp only [Value.slice.injEq] at hv2
    have := bulk_pos y.1
    omega
  · simp only [List.cons.injEq, and_true] at hv2
    rw [hv] at hv2
    simp only [Value.slice.injEq] at hv2
    have hzl : len ≤ zs.length := by rw [hz]; split <;> omega
    rw [hy]
    show l.length + 1 ≤ Rows.uptoBulk (DataW.slice (lits .u8 (zs.take len)) (lits .u8 (zs.drop len)))
    rw [bulk_slice]
    have h1 := bulk_len (H := H) (lits .u8 (zs.take len))
    have h2 : (lits (H := H) .u8 (zs.take len)).length = len := by simp [lits]; omega
    omega
theorem len6 {α : Type} : ∀ {l : List α}, l.length = 6 → ∃ x0 x1 x2 x3 x4 x5, l = [x0, x1, x2, x3, x4, x5]
  | [x0, x1, x2, x3, x4, x5], _ => ⟨x0, x1, x2, x3, x4, x5, rfl⟩
theorem cellsOp : Tryd.prog.cellsOf 46 = 6 := by kernel_rfl
theorem cellsInt : Tryd.prog.cellsOf 3 = 1 := by kernel_rfl
theorem wt_sum {D : Nat → DataW H} : ∀ (n : Nat) (qs : List OpC), qs.length = n → (∀ i q, qs[i]? = some q → 7 + q.b.length ≤ Rows.uptoBulk (D i)) → wt qs + 5 * qs.length ≤ (((List.range n).map D).map Rows.uptoBulk).sum := by
  intro n
  induction n with
  | zero =>
    intro qs hl _
    have : qs = [] := List.eq_nil_of_length_eq_zero hl
    subst this
    simp [wt]
  | succ n ih =>
    intro qs hl hq
    have h1 : n < qs.length := by omega
    have h2 := ih (qs.take n) (by simp; omega) fun i q hi => by
      have hin : i < n := by
        have := (List.getElem?_eq_some_iff.1 hi).1
        simp at this
        omega
      rw [List.getElem?_take_of_lt hin] at hi
      exact hq i q hi
    have h3 := wt_take h1
    have h4 : qs.take (n + 1) = qs := by rw [← hl]; exact List.take_length
    have h5 := hq n (qs.getD n noOp) (by rw [List.getD_eq_getElem?_getD, List.getElem?_eq_getElem h1]; rfl)
    rw [h4] at h3
    have h6 : (qs.take n).length = n := by simp; omega
    rw [h6] at h2
    rw [h3, hl, List.range_succ, List.map_append, List.map_append, List.sum_append]
    simp only [List.map_cons, List.map_nil, List.sum_cons, List.sum_nil]
    omega
theorem ops_of {n : Nat} {v : Value} {x : DataW H × List MemPlace} (h : DataW.trod enc Tryd.prog W base spare held n 32 [v] = some x) (hb : Rows.uptoBulk x.1 ≤ 1048576) :
    ∃ A qs cap, v = .slice A (List.length qs) cap ∧ OpAt W A cap qs ∧ wt qs + 5 * qs.length + 1 ≤ Rows.uptoBulk x.1 := by
  rcases open_slice Tryd.underlying32 h with ⟨hv, hy⟩ | ⟨a, len, cap, m, n', D, Pl, hv, _, hl, hm, hmm, hx, hi⟩
  · simp only [List.cons.injEq, and_true] at hv
    exact ⟨none, [], 0, hv, ⟨by simp, by simp, by decide, by simp⟩, by have := bulk_pos x.1; simpa [wt] using this⟩
  · simp only [List.cons.injEq, and_true] at hv
    rw [cellsOp] at hi
    have hlm : len ≤ m := by rw [hmm]; split <;> omega
    have hbulk : Rows.uptoBulkAll ((List.range len).map D) + 1 ≤ Rows.uptoBulk x.1 := by
      rw [hx]
      change _ ≤ Rows.uptoBulk (DataW.slice _ _)
      rw [bulk_slice]
      omega
    have key : ∀ i, i < len → ∃ q : OpC, 7 + q.b.length ≤ Rows.uptoBulk (D i) ∧ OpOk q ∧ ∃ A c, Bs W A c q.b ∧ ∀ j, j < 6 → W.cell? ((a.add (i * 6)).add j) = (opCells q A c)[j]? := by
      intro i hil
      obtain ⟨cs', hc, ht⟩ := hi i (by omega)
      obtain ⟨_, hcl, hat⟩ := World.cells?_some hc
      obtain ⟨xs, n2, _, hD, _, hxl, hf⟩ := DataW.trod_struct Tryd.underlying46 ht
      have hDi : D i = .agg (xs.map (·.1)) := by simpa using congrArg Prod.fst hD
      have hbi : Rows.uptoBulk (D i) ≤ 1048576 := by
        have h1 : Rows.uptoBulk (D i) ≤ Rows.uptoBulkAll ((List.range len).map D) := by
          rw [bulk_sum]
          exact mem_le_sum (List.mem_map.2 ⟨D i, List.mem_map.2 ⟨i, List.mem_range.2 hil, rfl⟩, rfl⟩)
        omega
      obtain ⟨c0, c1, c2, c3, c4, c5, rfl⟩ := len6 hcl
      obtain ⟨y0, y1, y2, y3, y4, y5, rfl⟩ := len6 hxl
      have f0 := hf 0 _ rfl
      have f1 := hf 1 _ rfl
      have f2 := hf 2 _ rfl
      have f3 := hf 3 _ rfl
      have f4 := hf 4 _ rfl
      have f5 := hf 5 _ rfl
      simp [cellsStr, cellsBytes, cellsInt] at f0 f1 f2 f3 f4 f5
      obtain ⟨z0, hz0, _, w0⟩ := DataW.trod_int Tryd.underlying3 f0
      obtain ⟨z1, hz1, _, w1⟩ := DataW.trod_int Tryd.underlying3 f1
      obtain ⟨z2, hz2, _, w2⟩ := DataW.trod_int Tryd.underlying3 f2
      obtain ⟨s, hs, hy3, hsz⟩ := DataW.trod_string Tryd.underlying9 f3
      obtain ⟨s2, hs2, hy4, hsz2⟩ := DataW.trod_string Tryd.underlying9 f4
      obtain ⟨A, l, cp, hsl, hbs, hlb⟩ := bytes_bulk f5
      simp only [List.cons.injEq, and_true] at hs hz0 hz1 hz2 hs2
      rw [hDi, bulk_agg] at hbi ⊢
      simp only [List.map_cons, List.map_nil, Rows.uptoBulkAll] at hbi ⊢
      rw [hy3, hy4] at hbi ⊢
      simp only [bulk_str] at hbi ⊢
      have hp0 := bulk_pos y0.1
      have hp1 := bulk_pos y1.1
      have hp2 := bulk_pos y2.1
      have hsl3 : s.data.toList.length = s.size := by simp
      have hsl4 : s2.data.toList.length = s2.size := by simp
      have b0 : -9223372036854775808 ≤ z0 ∧ z0 ≤ 9223372036854775807 := by simpa [Lit.wf, IntKind.min, IntKind.max, IntKind.signed, IntKind.bits] using w0
      have b1 : -9223372036854775808 ≤ z1 ∧ z1 ≤ 9223372036854775807 := by simpa [Lit.wf, IntKind.min, IntKind.max, IntKind.signed, IntKind.bits] using w1
      have b2 : -9223372036854775808 ≤ z2 ∧ z2 ≤ 9223372036854775807 := by simpa [Lit.wf, IntKind.min, IntKind.max, IntKind.signed, IntKind.bits] using w2
      refine ⟨⟨z0, z1, z2, s, s2, l⟩, by simp only; omega, ⟨by simp only; omega, by simp only; omega, by simp only; omega, b0, b1, b2⟩, A, cp, hbs, fun j hj => ?_⟩
      rw [hat j hj, hz0, hz1, hz2, hs, hs2, hsl]
      match j, hj with
      | 0, _ => rfl
      | 1, _ => rfl
      | 2, _ => rfl
      | 3, _ => rfl
      | 4, _ => rfl
      | 5, _ => rfl
    obtain ⟨qs, hpl, hq⟩ := list_of len key
    refine ⟨some a, qs, cap, by rw [hpl]; exact hv, ⟨by simp, by omega, hm, fun hp => ?_⟩, ?_⟩
    · obtain ⟨p0, hp0⟩ : ∃ p0, qs[0]? = some p0 := ⟨_, List.getElem?_eq_getElem hp⟩
      obtain ⟨_, _, A0, ci0, _, hc0⟩ := hq 0 p0 hp0
      have hfl2 : W.cell? (a.add 0) = some (.int .i64 p0.kind) := by
        have hfl := hc0 0 (by omega)
        have e : (a.add (0 * 6)).add 0 = a.add 0 := by simp [Addr.add]
        rw [e] at hfl
        exact hfl
      obtain ⟨b, o, rfl⟩ := flat hfl2
      refine ⟨b, o, rfl, fun i q hiq => ?_⟩
      obtain ⟨_, k1, A, c, h1, h3⟩ := hq i q hiq
      refine ⟨k1, A, c, h1, fun j hj => ?_⟩
      have := h3 j hj
      rw [add_flat, add_flat] at this
      exact this
    · have h9 := wt_sum (D := D) len qs hpl fun i q hi => (hq i q hi).1
      rw [← bulk_sum] at h9
      omega
end
end Go.Proofs.YtaolddgnannojaaDoor
