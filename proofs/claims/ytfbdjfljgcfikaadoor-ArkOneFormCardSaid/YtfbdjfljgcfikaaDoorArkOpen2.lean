/-
  What a slice of files reads as.
-/
import Derived.Test.YtfbdjfljgcfikaaDoorArkOpen
import Derived.Test.YtfbdjfljgcfikaaDoorArkFiles
namespace Go.Proofs.YtfbdjfljgcfikaaDoor
open Go.RowKit Go.ChangeShapes Go.WideShapes Go.Deep

theorem list_of {α : Type} {Q : Nat → α → Prop} : ∀ n : Nat, (∀ i, i < n → ∃ p, Q i p) → ∃ ps : List α, ps.length = n ∧ ∀ i p, ps[i]? = some p → Q i p
  | 0, _ => ⟨[], rfl, by simp⟩
  | n + 1, h => by
    obtain ⟨ps, hl, hq⟩ := list_of n fun i hi => h i (by omega)
    obtain ⟨p, hp⟩ := h n (by omega)
    refine ⟨ps ++ [p], by simp [hl], fun i q hi => ?_⟩
    by_cases hlt : i < ps.length
    · rw [List.getElem?_append_left hlt] at hi
      exact hq i q hi
    · rw [List.getElem?_append_right (by omega)] at hi
      have h0 : i = n := by
        have := (List.getElem?_eq_some_iff.1 hi).1
        simp at this
        omega
      subst h0
      simp [hl] at hi
      subst hi
      exact hp
theorem len2 {α : Type} : ∀ {l : List α}, l.length = 2 → ∃ x0 x1, l = [x0, x1]
  | [x0, x1], _ => ⟨x0, x1, rfl⟩
theorem cellsFile : Tryd.prog.cellsOf 46 = 2 := by kernel_rfl
theorem cellsStr : Tryd.prog.cellsOf 9 = 1 := by kernel_rfl
theorem cellsBytes : Tryd.prog.cellsOf 28 = 1 := by kernel_rfl
section
variable {H : Type} {enc : TypeId × Value → H} {W : World} {base : Nat} {spare : Nat → Bool} {held : Bool}
theorem files_of {n : Nat} {v : Value} {x : DataW H × List MemPlace} (h : DataW.trod enc Tryd.prog W base spare held n 22 [v] = some x) :
    ∃ A ps cap, v = .slice A (List.length ps) cap ∧ FlAt W A cap ps ∧ ∀ p ∈ ps, p.1.size ≤ maxLen := by
  rcases open_slice Tryd.underlying22 h with ⟨hv, hy⟩ | ⟨a, len, cap, m, n', D, Pl, hv, _, hl, hm, hmm, hx, hi⟩
  · simp only [List.cons.injEq, and_true] at hv
    exact ⟨none, [], 0, hv, ⟨by simp, by simp, by decide, by simp⟩, by simp⟩
  · simp only [List.cons.injEq, and_true] at hv
    rw [cellsFile] at hi
    have hlm : len ≤ m := by rw [hmm]; split <;> omega
    have key : ∀ i, i < len → ∃ p : ByteArray × List UInt8, W.cell? ((a.add (i * 2)).add 0) = some (.string p.1) ∧ p.1.size ≤ maxLen ∧
        ∃ Ai ci, W.cell? ((a.add (i * 2)).add 1) = some (.slice Ai p.2.length ci) ∧ Bs W Ai ci p.2 := by
      intro i hil
      obtain ⟨cs', hc, ht⟩ := hi i (by omega)
      obtain ⟨_, hcl, hat⟩ := World.cells?_some hc
      obtain ⟨xs, n2, _, hD, _, hxl, hf⟩ := DataW.trod_struct Tryd.underlying46 ht
      obtain ⟨c0, c1, rfl⟩ := len2 hcl
      obtain ⟨y0, y1, rfl⟩ := len2 hxl
      have f0 := hf 0 _ rfl
      have f1 := hf 1 _ rfl
      simp [cellsStr, cellsBytes] at f0 f1
      obtain ⟨s, hs, hy0, hsz⟩ := DataW.trod_string Tryd.underlying9 f0
      obtain ⟨A, l, cp, hsl, hbs⟩ := bytes_of f1
      simp only [List.cons.injEq, and_true] at hs
      refine ⟨(s, l), ?_, hsz, A, cp, ?_, hbs⟩
      · rw [hat 0 (by omega), hs]; rfl
      · rw [hat 1 (by omega), hsl]; rfl
    obtain ⟨ps, hpl, hq⟩ := list_of len key
    refine ⟨some a, ps, cap, by rw [hpl]; exact hv, ⟨by simp, by omega, hm, fun hp => ?_⟩, ?_⟩
    · obtain ⟨p0, hp0⟩ : ∃ p0, ps[0]? = some p0 := ⟨_, List.getElem?_eq_getElem hp⟩
      have hfl := (hq 0 p0 hp0).1
      have hfl2 : W.cell? (a.add 0) = some (.string p0.1) := by
        have e : (a.add (0 * 2)).add 0 = a.add 0 := by simp [Addr.add]
        rw [e] at hfl
        exact hfl
      obtain ⟨b, o, rfl⟩ := flat hfl2
      refine ⟨b, o, rfl, fun i p hip => ?_⟩
      obtain ⟨q1, q2, Ai, ci, q4, q5⟩ := hq i p hip
      rw [add_flat, add_flat] at q1 q4
      exact ⟨q1, Ai, ci, q4, q5⟩
    · intro p hp
      obtain ⟨i, hi⟩ := List.getElem?_of_mem hp
      exact (hq i p hi).2.1
end
end Go.Proofs.YtfbdjfljgcfikaaDoor
