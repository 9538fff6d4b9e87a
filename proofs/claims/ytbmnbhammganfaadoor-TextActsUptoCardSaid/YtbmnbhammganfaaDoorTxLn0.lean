/-
  line: laws.
-/
import Derived.Test.YtbmnbhammganfaaDoorTxRfa
import Derived.Test.YtbmnbhammganfaaDoorTxTb
namespace Go.Proofs.YtbmnbhammganfaaDoor
open Go.RowKit Go.Maps

set_option linter.unusedSimpArgs false

attribute [local go_sem] lt1 lt2 lt3 lt4 lt5 lt6

theorem line_wf {a : ActD} (ha : ActOk a) (hk : knownR (lineR a)) : WfR (shortR (lineR a)) := by
  obtain ⟨kind, ck, path, ver, name, data, n, m, url, att, fk, fn, fdata⟩ := a
  obtain ⟨h1, h2, h3, h4, h5, h6, -, -, -, -, -⟩ := ha
  simp only at h1 h2 h3 h4 h5 h6
  unfold knownR lineR at hk
  unfold lineR
  simp only at hk ⊢
  have key : kind = 1 ∨ kind = 2 ∨ kind = 3 ∨ kind = 4 ∨ kind = 5 ∨ kind = 6 ∨ kind = 7 ∨ kind = 8 ∨ kind = 9 ∨ kind = 10 ∨ kind = 11 := by
    obtain ⟨⟨q1, q2⟩, -, -⟩ := hk
    split at q1 <;> (try (simp only at q1 q2)) <;> (try omega)
    all_goals (repeat' split at q1) <;> (try (simp only at q1)) <;> (try omega)
    all_goals (repeat' split at q2) <;> (try (simp only at q2)) <;> (try omega)
  rcases key with rfl | rfl | rfl | rfl | rfl | rfl | rfl | rfl | rfl | rfl | rfl
  · simp only [if_true] at hk ⊢
    unfold shortR
    by_cases hs : ck ≠ 1 ∧ ck ≠ 4
    · rw [if_pos ⟨rfl, hs⟩]
      exact ⟨by simp, by simp, fun _ => .inr rfl, by simp, by simp, by simp, by simp, by simp, by simp, by simp⟩
    · rw [if_neg fun h => hs h.2]
      exact ⟨by simp, by simp, fun _ => .inl rfl, by simp, by simp, by simp, by simp, by simp, by simp, by simp; omega⟩
  all_goals (simp [shortR]; exact ⟨by simp, by simp, by simp, by simp, by simp, by simp, by simp, by simp, by simp, by simp; try omega⟩)
theorem line_small {a : ActD} (ha : ActOk a) : ∀ t ∈ (lineR a).texts, t.length ≤ 1048576 := by
  obtain ⟨kind, ck, path, ver, name, data, n, m, url, att, fk, fn, fdata⟩ := a
  obtain ⟨h1, h2, h3, h4, h5, h6, -, -, -, -, -⟩ := ha
  simp only at h1 h2 h3 h4 h5 h6
  unfold lineR
  simp only
  (repeat' split) <;> simp <;> omega
theorem line_nums {a : ActD} (ha : ActOk a) : ∀ n ∈ (lineR a).nums, -9223372036854775808 ≤ n ∧ n ≤ 9223372036854775807 := by
  obtain ⟨kind, ck, path, ver, name, data, n, m, url, att, fk, fn, fdata⟩ := a
  obtain ⟨-, -, -, -, -, -, h1, h2, h3, h4, h5⟩ := ha
  simp only at h1 h2 h3 h4 h5
  unfold lineR
  simp only
  (repeat' split) <;> simp <;> omega
theorem forms_cnt : ∀ F ∈ RFORMS, (F.kind = 1 → F.says.count 116 ≤ 2 ∧ F.says.count 110 = 0) ∧ (F.kind = 4 → F.says.count 116 = 0 ∧ F.says.count 110 ≤ 2) ∧ (F.kind = 5 ∨ F.kind = 10 ∨ F.kind = 11 → F.says.count 116 = 0 ∧ F.says.count 110 ≤ 1) ∧ (F.kind = 6 ∨ F.kind = 9 → F.says.count 116 ≤ 2 ∧ F.says.count 110 = 0) ∧ (F.kind = 7 → F.says.count 116 ≤ 1 ∧ F.says.count 110 = 0) ∧ (F.kind = 8 → F.says.count 116 ≤ 2 ∧ F.says.count 110 ≤ 2) ∧ (F.kind = 2 ∨ F.kind = 3 → F.says.count 116 = 0 ∧ F.says.count 110 = 0) ∧ 1 ≤ F.kind ∧ F.kind ≤ 11 := by decide +kernel
theorem line_cnt (a : ActD) : ∀ F ∈ RFORMS, (F.kind : Int) = (lineR a).kind → F.says.count 116 ≤ (lineR a).texts.length ∧ F.says.count 110 ≤ (lineR a).nums.length := by
  intro F hF hk
  obtain ⟨f1, f4, f5, f6, f7, f8, f2, f9, f10⟩ := forms_cnt F hF
  obtain ⟨kind, ck, path, ver, name, data, n, m, url, att, fk, fn, fdata⟩ := a
  unfold lineR at hk ⊢
  simp only at hk ⊢
  split at hk
  · rename_i h
    rw [if_pos h]; simp only at hk ⊢
    have := f1 (by omega)
    simp; omega
  · rename_i n1
    rw [if_neg n1]
    split at hk
    · rename_i h
      rw [if_pos h]; simp only at hk ⊢
      have := f4 (by omega)
      simp; omega
    · rename_i n4
      rw [if_neg n4]
      split at hk
      · rename_i h
        rw [if_pos h]; simp only at hk ⊢
        have := f5 (by omega)
        simp; omega
      · rename_i n5
        rw [if_neg n5]
        split at hk
        · rename_i h
          rw [if_pos h]; simp only at hk ⊢
          have := f6 (by omega)
          simp; omega
        · rename_i n6
          rw [if_neg n6]
          split at hk
          · rename_i h
            rw [if_pos h]; simp only at hk ⊢
            have := f7 (by omega)
            simp; omega
          · rename_i n7
            rw [if_neg n7]
            split at hk
            · rename_i h
              rw [if_pos h]; simp only at hk ⊢
              have := f8 (by omega)
              simp; omega
            · rename_i n8
              rw [if_neg n8]
              simp only at hk ⊢
              have := f2 (by omega)
              simp; omega
/-- what line hands back -/
def LnPost (w : World) (a : ActD) (e : Ending) (w' : World) : Prop := RfPost w (formatA a) e w'
theorem RBox.keep {w w' : World} {V : Array Value} {R : RActD} (h : RBox w V R) (hc : Cells w w') : RBox w' V R := by
  obtain ⟨A1, c1, A2, c2, D, h1, h2, h3, h4⟩ := h
  exact ⟨A1, c1, A2, c2, D, h1, h2, h3.keep hc, h4.keep hc⟩
theorem rbox_mk {w : World} {R : RActD} {A1 A2 : Option Addr} {c1 c2 n1 n2 : Nat} {D : List ByteArray} (hD : D.map toL = R.texts) (h1 : Sl w A1 c1 D.length 1 (txs D)) (h2 : Sl w A2 c2 R.nums.length 1 (intsV R.nums)) (e1 : n1 = D.length) (e2 : n2 = R.nums.length) : RBox w #[.int .i64 R.kind, .int .i64 R.sub, .slice A1 n1 c1, .slice A2 n2 c2] R := by
  subst e1 e2
  exact ⟨A1, c1, A2, c2, D, rfl, hD, h1, h2⟩
theorem sl_none (w : World) : Sl w none 0 0 1 [] := ⟨rfl, by simp, by simp, by simp, by simp⟩
theorem sl_row {w : World} {g : Nat} {xs : List Value} {t : TypeId} {n : Nat} (h : w.heap[g]? = some (.cells xs.toArray t (0, 0))) (hn : xs.length = n) (hm : n ≤ maxLen) : Sl w (some ⟨g, 0, none⟩) n n 1 xs := by
  subst hn
  refine ⟨by simp, by simp, Nat.le_refl _, hm, fun _ => ⟨g, 0, rfl, fun j hj => ?_⟩⟩
  rw [Nat.zero_add, (blk_cells h).1 j, List.getElem?_toArray]
theorem row4 {w : World} {b : Nat} {t : TypeId} {v0 v1 v2 v3 : Value} (h : w.heap[b]? = some (.cells #[v0, v1, v2, v3] t (0, 0))) : w.cell? ⟨b, 0, none⟩ = some v0 ∧ w.cell? ⟨b, 1, none⟩ = some v1 ∧ w.cell? ⟨b, 2, none⟩ = some v2 ∧ w.cell? ⟨b, 3, none⟩ = some v3 := by
  have hc := (blk_cells h).1
  exact ⟨hc 0, hc 1, hc 2, hc 3⟩
end Go.Proofs.YtbmnbhammganfaaDoor
