/-
  The law's arguments, laid open: what a slice of pages, a slice of faults reads as.
-/
import Derived.Test.YtpblaclhfcomeaaNew
import Derived.Test.YtpblaclhfcomeaaRows
import Derived.Deep.Slices
import Derived.ChangeSlices
import Derived.ChangeArms
namespace Go.Proofs.Ytpblaclhfcomeaa
open Go.RowKit Go.ChangeShapes Go.WideShapes Go.Deep

theorem bulk_all_le {H : Type} : ∀ {l : List (DataW H)} {d : DataW H}, d ∈ l → Rows.uptoBulk d ≤ Rows.uptoBulkAll l
  | x :: r, d, h => by
    simp only [Rows.uptoBulkAll]
    rcases List.mem_cons.1 h with rfl | h
    · omega
    · have := bulk_all_le h; omega
theorem bulk_pos {H : Type} (d : DataW H) : 1 ≤ Rows.uptoBulk d := by
  cases d with
  | lit l => cases l <;> simp [Rows.uptoBulk]
  | _ => simp [Rows.uptoBulk]
theorem bulk_len {H : Type} : ∀ l : List (DataW H), l.length ≤ Rows.uptoBulkAll l
  | [] => by simp
  | x :: r => by have := bulk_len r; have := bulk_pos x; simp only [Rows.uptoBulkAll, List.length_cons]; omega
theorem bulk_slice {H : Type} (e s : List (DataW H)) : Rows.uptoBulk (.slice e s) = Rows.uptoBulkAll e + Rows.uptoBulkAll s + 1 := by simp only [Rows.uptoBulk]
theorem bulk_agg {H : Type} (e : List (DataW H)) : Rows.uptoBulk (.agg e) = Rows.uptoBulkAll e + 1 := by simp only [Rows.uptoBulk]
theorem bulk_str {H : Type} (b : List UInt8) : Rows.uptoBulk (DataW.lit (H := H) (.string b)) = b.length + 1 := by simp [Rows.uptoBulk]

theorem list_of {α : Type} {Q : Nat → α → Prop} : ∀ n : Nat, (∀ i, i < n → ∃ p, Q i p) → ∃ ps : List α, ps.length = n ∧ ∀ i p, ps[i]? = some p → Q i p
  | 0, _ => ⟨[], rfl, by simp⟩
  | n + 1, h => by
    obtain ⟨ps, hl, hq⟩ := list_of n fun i hi => h i (by omega)
    obtain ⟨p, hp⟩ := h n (by omega)
    refine ⟨ps ++ [p], by simp [hl], fun i q hi => ?_⟩
    by_cases hlt : i < ps.length
    · rw [List.getElem?_append_left hlt] at hi
      exact hq i q hi
    · rw [List.getElem?_append_right (by omega)] at hi
      have h0 : i = n := by
        have := (List.getElem?_eq_some_iff.1 hi).1
        simp at this
        omega
      subst h0
      simp [hl] at hi
      subst hi
      exact hp

theorem add_flat (b o i : Nat) : (⟨b, o, none⟩ : Addr).add i = ⟨b, o + i, none⟩ := by
  unfold Addr.add
  by_cases h : i = 0 <;> simp [h]
/-- an address at which a cell can be read is a flat one -/
theorem flat {w : World} {a : Addr} {v : Value} (h : w.cell? (a.add 0) = some v) : ∃ b o, a = ⟨b, o, none⟩ := by
  obtain ⟨b, o, s⟩ := a
  cases s with
  | none => exact ⟨b, o, rfl⟩
  | some s =>
    have hs : (⟨b, o, some s⟩ : Addr).add 0 = ⟨b, o, some s⟩ := by simp [Addr.add]
    rw [hs] at h
    unfold World.cell? at h
    split at h
    · simp at h
    · cases h
theorem len2 {α : Type} : ∀ {l : List α}, l.length = 2 → ∃ x0 x1, l = [x0, x1]
  | [x0, x1], _ => ⟨x0, x1, rfl⟩
theorem len5 {α : Type} : ∀ {l : List α}, l.length = 5 → ∃ x0 x1 x2 x3 x4, l = [x0, x1, x2, x3, x4]
  | [x0, x1, x2, x3, x4], _ => ⟨x0, x1, x2, x3, x4, rfl⟩

section
variable {H : Type} {enc : TypeId × Value → H} {W : World} {base : Nat} {spare : Nat → Bool} {held : Bool}

theorem cellsU8 : Try.prog.cellsOf 5 = 1 := by kernel_rfl
theorem cellsPage : Try.prog.cellsOf 33 = 2 := by kernel_rfl
theorem cellsFault : Try.prog.cellsOf 38 = 5 := by kernel_rfl
theorem cellsStr : Try.prog.cellsOf 9 = 1 := by kernel_rfl
theorem cellsInt : Try.prog.cellsOf 3 = 1 := by kernel_rfl
theorem cellsBytes : Try.prog.cellsOf 31 = 1 := by kernel_rfl

theorem bytes_of {n : Nat} {v : Value} {y : DataW H × List MemPlace} (h : DataW.trod enc Try.prog W base spare held n 31 [v] = some y) :
    ∃ A l cap, v = .slice A l.length cap ∧ Bs W A cap l ∧ l.length ≤ Rows.uptoBulk y.1 := by
  rcases open_ints Try.underlying31 Try.underlying5 cellsU8 h with ⟨hv, hy⟩ | ⟨a, len, cap, zs, hv, _, hl, hm, hz, hy, hcell, hwf⟩
  · simp only [List.cons.injEq, and_true] at hv
    exact ⟨none, [], 0, hv, Bs.none_ W, by simp⟩
  · simp only [List.cons.injEq, and_true] at hv
    have hzl : len ≤ zs.length := by rw [hz]; split <;> omega
    have hlen : ((zs.take len).map fun z => UInt8.ofNat z.toNat).length = len := by simp; omega
    refine ⟨some a, (zs.take len).map fun z => UInt8.ofNat z.toNat, cap, by rw [hlen]; exact hv, ⟨by simp [u8s], by simp, by rw [hlen]; exact hl, hm, fun hp => ?_⟩, ?_⟩
    · rw [hlen] at hp
      obtain ⟨b, o, rfl⟩ := flat (hcell 0 (by omega))
      refine ⟨b, o, rfl, fun j hj => ?_⟩
      rw [hlen] at hj
      have hj' : j < len := by omega
      have hc := hcell j (by omega)
      rw [add_flat] at hc
      rw [hc, u8s_at (by rw [hlen]; omega)]
      have hw := hwf (zs.getD j 0) (by
        rw [List.getD_eq_getElem?_getD, List.getElem?_eq_getElem (by omega)]
        simp)
      have hr : 0 ≤ zs.getD j 0 ∧ zs.getD j 0 ≤ 255 := by simpa [Lit.wf, IntKind.min, IntKind.max, IntKind.signed, IntKind.bits] using hw
      congr 2
      rw [List.getD_eq_getElem?_getD (l := List.map _ _), List.getElem?_map, List.getElem?_take_of_lt hj', List.getElem?_eq_getElem (show j < zs.length by omega)]
      rw [List.getD_eq_getElem?_getD, List.getElem?_eq_getElem (show j < zs.length by omega)] at hr ⊢
      simp at hr ⊢
      omega
    · rw [hlen, hy]
      show len ≤ Rows.uptoBulk (DataW.slice (lits .u8 (zs.take len)) (lits .u8 (zs.drop len)))
      rw [bulk_slice]
      have h1 := bulk_len (H := H) (lits .u8 (zs.take len))
      have h2 : (lits (H := H) .u8 (zs.take len)).length = len := by simp [lits]; omega
      omega

theorem pages_of {n : Nat} {v : Value} {x : DataW H × List MemPlace} (h : DataW.trod enc Try.prog W base spare held n 22 [v] = some x) (hb : Rows.uptoBulk x.1 ≤ 1048576) :
    ∃ A ps cap, v = .slice A (List.length ps) cap ∧ PgAt W A cap ps ∧ ps.length ≤ 1048576 := by
  rcases open_slice Try.underlying22 h with ⟨hv, hy⟩ | ⟨a, len, cap, m, n', D, Pl, hv, _, hl, hm, hmm, hx, hi⟩
  · simp only [List.cons.injEq, and_true] at hv
    exact ⟨none, [], 0, hv, ⟨by simp, by simp, by decide, by simp⟩, by simp⟩
  · simp only [List.cons.injEq, and_true] at hv
    rw [cellsPage] at hi
    have hlm : len ≤ m := by rw [hmm]; split <;> omega
    have hbulk : Rows.uptoBulkAll ((List.range len).map D) ≤ 1048576 := by
      rw [hx] at hb
      change Rows.uptoBulk (DataW.slice _ _) ≤ _ at hb
      rw [bulk_slice] at hb
      omega
    have key : ∀ i, i < len → ∃ p : ByteArray × List UInt8, W.cell? ((a.add (i * 2)).add 0) = some (.string p.1) ∧ p.1.size ≤ maxLen ∧ p.2.length ≤ 140737488351232 ∧
        ∃ Ai ci, W.cell? ((a.add (i * 2)).add 1) = some (.slice Ai p.2.length ci) ∧ Bs W Ai ci p.2 := by
      intro i hil
      obtain ⟨cs', hc, ht⟩ := hi i (by omega)
      obtain ⟨_, hcl, hat⟩ := World.cells?_some hc
      obtain ⟨xs, n2, _, hD, _, hxl, hf⟩ := DataW.trod_struct Try.underlying33 ht
      have hDi : D i = .agg (xs.map (·.1)) := by simpa using congrArg Prod.fst hD
      have hbi : Rows.uptoBulk (D i) ≤ 1048576 := by
        have := bulk_all_le (l := (List.range len).map D) (d := D i) (List.mem_map.2 ⟨i, List.mem_range.2 hil, rfl⟩)
        omega
      obtain ⟨c0, c1, rfl⟩ := len2 hcl
      obtain ⟨y0, y1, rfl⟩ := len2 hxl
      have f0 := hf 0 _ rfl
      have f1 := hf 1 _ rfl
      simp [cellsStr, cellsBytes] at f0 f1
      obtain ⟨s, hs, hy0, hsz⟩ := DataW.trod_string Try.underlying9 f0
      obtain ⟨A, l, cp, hsl, hbs, hlb⟩ := bytes_of f1
      simp only [List.cons.injEq, and_true] at hs
      rw [hDi, bulk_agg] at hbi
      simp only [List.map_cons, List.map_nil, Rows.uptoBulkAll] at hbi
      refine ⟨(s, l), ?_, hsz, by simp only; omega, A, cp, ?_, hbs⟩
      · rw [hat 0 (by omega), hs]; rfl
      · rw [hat 1 (by omega), hsl]; rfl
    obtain ⟨ps, hpl, hq⟩ := list_of len key
    refine ⟨some a, ps, cap, by rw [hpl]; exact hv, ⟨by simp, by omega, hm, fun hp => ?_⟩, ?_⟩
    · obtain ⟨p0, hp0⟩ : ∃ p0, ps[0]? = some p0 := ⟨_, List.getElem?_eq_getElem hp⟩
      have hfl := (hq 0 p0 hp0).1
      have hfl2 : W.cell? (a.add 0) = some (.string p0.1) := by
        have e : (a.add (0 * 2)).add 0 = a.add 0 := by simp [Addr.add]
        rw [e] at hfl
        exact hfl
      obtain ⟨b, o, rfl⟩ := flat hfl2
      refine ⟨b, o, rfl, fun i p hip => ?_⟩
      obtain ⟨q1, q2, q3, Ai, ci, q4, q5⟩ := hq i p hip
      rw [add_flat, add_flat] at q1 q4
      exact ⟨q1, q2, q3, Ai, ci, q4, q5⟩
    · have h1 := bulk_len ((List.range len).map D)
      simp at h1
      omega

theorem faults_of {n : Nat} {v : Value} {x : DataW H × List MemPlace} (h : DataW.trod enc Try.prog W base spare held n 23 [v] = some x) (hb : Rows.uptoBulk x.1 ≤ 1048576) :
    ∃ A fs cap, v = .slice A (List.length fs) cap ∧ FtAt W A cap fs ∧ fs.length ≤ 1048576 := by
  rcases open_slice Try.underlying23 h with ⟨hv, hy⟩ | ⟨a, len, cap, m, n', D, Pl, hv, _, hl, hm, hmm, hx, hi⟩
  · simp only [List.cons.injEq, and_true] at hv
    exact ⟨none, [], 0, hv, ⟨by simp, by simp, by decide, by simp⟩, by simp⟩
  · simp only [List.cons.injEq, and_true] at hv
    rw [cellsFault] at hi
    have hlm : len ≤ m := by rw [hmm]; split <;> omega
    have hbulk : Rows.uptoBulkAll ((List.range len).map D) ≤ 1048576 := by
      rw [hx] at hb
      change Rows.uptoBulk (DataW.slice _ _) ≤ _ at hb
      rw [bulk_slice] at hb
      omega
    have key : ∀ i, i < len → ∃ f : PFault, f.u.size ≤ maxLen ∧ f.data.length ≤ 140737488351232 ∧ (-9223372036854775808 ≤ f.att ∧ f.att ≤ 9223372036854775807) ∧ (-9223372036854775808 ≤ f.kind ∧ f.kind ≤ 9223372036854775807) ∧
        (-9223372036854775808 ≤ f.n ∧ f.n ≤ 9223372036854775807) ∧
        ∃ Ai ci, Bs W Ai ci f.data ∧ ∀ j, j < 5 → W.cell? ((a.add (i * 5)).add j) = (#[.string f.u, .int .i64 f.att, .int .i64 f.kind, .int .i64 f.n, .slice Ai f.data.length ci] : Array Value)[j]? := by
      intro i hil
      obtain ⟨cs', hc, ht⟩ := hi i (by omega)
      obtain ⟨_, hcl, hat⟩ := World.cells?_some hc
      obtain ⟨xs, n2, _, hD, _, hxl, hf⟩ := DataW.trod_struct Try.underlying38 ht
      have hDi : D i = .agg (xs.map (·.1)) := by simpa using congrArg Prod.fst hD
      have hbi : Rows.uptoBulk (D i) ≤ 1048576 := by
        have := bulk_all_le (l := (List.range len).map D) (d := D i) (List.mem_map.2 ⟨i, List.mem_range.2 hil, rfl⟩)
        omega
      obtain ⟨c0, c1, c2, c3, c4, rfl⟩ := len5 hcl
      obtain ⟨y0, y1, y2, y3, y4, rfl⟩ := len5 hxl
      have f0 := hf 0 _ rfl
      have f1 := hf 1 _ rfl
      have f2 := hf 2 _ rfl
      have f3 := hf 3 _ rfl
      have f4 := hf 4 _ rfl
      simp [cellsStr, cellsBytes, cellsInt] at f0 f1 f2 f3 f4
      obtain ⟨s, hs, hy0, hsz⟩ := DataW.trod_string Try.underlying9 f0
      obtain ⟨z1, hz1, _, w1⟩ := DataW.trod_int Try.underlying3 f1
      obtain ⟨z2, hz2, _, w2⟩ := DataW.trod_int Try.underlying3 f2
      obtain ⟨z3, hz3, _, w3⟩ := DataW.trod_int Try.underlying3 f3
      obtain ⟨A, l, cp, hsl, hbs, hlb⟩ := bytes_of f4
      simp only [List.cons.injEq, and_true] at hs hz1 hz2 hz3
      rw [hDi, bulk_agg] at hbi
      simp only [List.map_cons, List.map_nil, Rows.uptoBulkAll] at hbi
      have b1 : -9223372036854775808 ≤ z1 ∧ z1 ≤ 9223372036854775807 := by simpa [Lit.wf, IntKind.min, IntKind.max, IntKind.signed, IntKind.bits] using w1
      have b2 : -9223372036854775808 ≤ z2 ∧ z2 ≤ 9223372036854775807 := by simpa [Lit.wf, IntKind.min, IntKind.max, IntKind.signed, IntKind.bits] using w2
      have b3 : -9223372036854775808 ≤ z3 ∧ z3 ≤ 9223372036854775807 := by simpa [Lit.wf, IntKind.min, IntKind.max, IntKind.signed, IntKind.bits] using w3
      refine ⟨⟨s, z1, z2, z3, l⟩, hsz, by simp only; omega, b1, b2, b3, A, cp, hbs, fun j hj => ?_⟩
      rw [hat j hj, hs, hz1, hz2, hz3, hsl]
      match j, hj with
      | 0, _ => rfl
      | 1, _ => rfl
      | 2, _ => rfl
      | 3, _ => rfl
      | 4, _ => rfl
    obtain ⟨ps, hpl, hq⟩ := list_of len key
    refine ⟨some a, ps, cap, by rw [hpl]; exact hv, ⟨by simp, by omega, hm, fun hp => ?_⟩, ?_⟩
    · obtain ⟨p0, hp0⟩ : ∃ p0, ps[0]? = some p0 := ⟨_, List.getElem?_eq_getElem hp⟩
      obtain ⟨_, _, _, _, _, A0, ci0, _, hc0⟩ := hq 0 p0 hp0
      have hfl2 : W.cell? (a.add 0) = some (.string p0.u) := by
        have hfl := hc0 0 (by omega)
        have e : (a.add (0 * 5)).add 0 = a.add 0 := by simp [Addr.add]
        rw [e] at hfl
        exact hfl
      obtain ⟨b, o, rfl⟩ := flat hfl2
      refine ⟨b, o, rfl, fun i p hip => ?_⟩
      obtain ⟨q1, q2, q3, q4, q5, Ai, ci, q6, q7⟩ := hq i p hip
      refine ⟨q1, q2, q3, q4, q5, Ai, ci, q6, fun j hj => ?_⟩
      have := q7 j hj
      rw [add_flat, add_flat] at this
      exact this
    · have h1 := bulk_len ((List.range len).map D)
      simp at h1
      omega
end
end Go.Proofs.Ytpblaclhfcomeaa
