/-
  act: of any act that is well made; what ParseAct reads is.
-/
import Derived.Test.YtbmnbhammganfaaDoorH7
import Derived.Test.YtbmnbhammganfaaDoorTxRpl
namespace Go.Proofs.YtbmnbhammganfaaDoor
open Go.RowKit Go.Maps

set_option linter.unusedSimpArgs false

structure WfR (R : RActD) : Prop where
  low : 1 ≤ R.kind
  high : R.kind ≤ 11
  k1 : R.kind = 1 → R.texts.length = 2 ∨ R.texts = []
  k4 : R.kind = 4 → R.nums.length = 2
  k5 : R.kind = 5 ∨ R.kind = 10 ∨ R.kind = 11 → 1 ≤ R.nums.length
  k6 : R.kind = 6 ∨ R.kind = 9 → R.texts.length = 2
  k7 : R.kind = 7 → 1 ≤ R.texts.length
  k8 : R.kind = 8 → R.texts.length = 2 ∧ R.nums.length = 2
  sub : R.kind ≠ 1 → R.kind ≠ 8 → R.sub = 0
  small : ∀ t ∈ R.texts, t.length ≤ 1048576
theorem int_at {w : World} {A : Option Addr} {c : Nat} {x : List Int} (h : Sl w A c x.length 1 (intsV x)) {i : Nat} (hi : i < x.length) : ∃ b o n, A = some ⟨b, o, none⟩ ∧ x[i]? = some n ∧ w.cell? ⟨b, o + i, none⟩ = some (.int .i64 n) := by
  obtain ⟨b, o, hA, hx⟩ := h.cells (by omega)
  refine ⟨b, o, x[i], hA, List.getElem?_eq_getElem hi, ?_⟩
  have := hx i (by omega)
  rw [this, intsV, List.getElem?_map, List.getElem?_eq_getElem hi]
  rfl
theorem txs_two {w : World} {A : Option Addr} {c : Nat} {D : List ByteArray} (h : Sl w A c D.length 1 (txs D)) (h2 : D.length = 2) : ∃ b o p q, A = some ⟨b, o, none⟩ ∧ D = [p, q] ∧ w.cell? ⟨b, o, none⟩ = some (.string p) ∧ w.cell? ⟨b, o + 1, none⟩ = some (.string q) := by
  obtain ⟨b, o, p, hA, hp, hc⟩ := str_at (x := D) h (i := 0) (by omega)
  obtain ⟨b', o', q, hA', hq, hc'⟩ := str_at (x := D) h (i := 1) (by omega)
  rw [hA] at hA'
  cases hA'
  refine ⟨b, o, p, q, hA, ?_, by rwa [Nat.add_zero] at hc, hc'⟩
  rcases D with _ | ⟨a, _ | ⟨b, _ | ⟨d, r⟩⟩⟩ <;> simp at h2 hp hq
  rw [hp, hq]
theorem txs_head {w : World} {A : Option Addr} {c : Nat} {D : List ByteArray} (h : Sl w A c D.length 1 (txs D)) (h2 : 1 ≤ D.length) : ∃ b o p, A = some ⟨b, o, none⟩ ∧ D[0]? = some p ∧ w.cell? ⟨b, o, none⟩ = some (.string p) := by
  obtain ⟨b, o, p, hA, hp, hc⟩ := str_at (x := D) h (i := 0) (by omega)
  exact ⟨b, o, p, hA, hp, by rwa [Nat.add_zero] at hc⟩
theorem ints_two {w : World} {A : Option Addr} {c : Nat} {l : List Int} (h : Sl w A c l.length 1 (intsV l)) (h2 : l.length = 2) : ∃ b o p q, A = some ⟨b, o, none⟩ ∧ l = [p, q] ∧ w.cell? ⟨b, o, none⟩ = some (.int .i64 p) ∧ w.cell? ⟨b, o + 1, none⟩ = some (.int .i64 q) := by
  obtain ⟨b, o, p, hA, hp, hc⟩ := int_at h (i := 0) (by omega)
  obtain ⟨b', o', q, hA', hq, hc'⟩ := int_at h (i := 1) (by omega)
  rw [hA] at hA'
  cases hA'
  refine ⟨b, o, p, q, hA, ?_, by rwa [Nat.add_zero] at hc, hc'⟩
  rcases l with _ | ⟨a, _ | ⟨b, _ | ⟨d, r⟩⟩⟩ <;> simp at h2 hp hq
  rw [hp, hq]
theorem ints_head {w : World} {A : Option Addr} {c : Nat} {l : List Int} (h : Sl w A c l.length 1 (intsV l)) (h2 : 1 ≤ l.length) : ∃ b o p, A = some ⟨b, o, none⟩ ∧ l[0]? = some p ∧ w.cell? ⟨b, o, none⟩ = some (.int .i64 p) := by
  obtain ⟨b, o, p, hA, hp, hc⟩ := int_at h (i := 0) (by omega)
  exact ⟨b, o, p, hA, hp, by rwa [Nat.add_zero] at hc⟩
set_option maxRecDepth 100000 in
set_option maxHeartbeats 4000000 in
theorem act_ref (w : World) (V : Array Value) (R : RActD) (hV : RBox w V R) (hR : WfR R) : Calls Tryd.prog 20 #[.agg V] w (ActPost w (actR R)) := by
  obtain ⟨A1, c1, A2, c2, D, rfl, hD, h1, h2⟩ := hV
  obtain ⟨kind, sub, texts, nums⟩ := R
  obtain ⟨hlo, hhi, k1, k4, k5, k6, k7, k8, hsub, hsm⟩ := hR
  simp only at hlo hhi k1 k4 k5 k6 k7 k8 hsub hsm hD h2 ⊢
  have hDl : D.length = texts.length := by rw [← hD, List.length_map]
  have hDs : ∀ p ∈ D, p.size ≤ 1048576 := fun p hp => by
    have := hsm (toL p) (by rw [← hD]; exact List.mem_map.2 ⟨p, hp, rfl⟩)
    rwa [toL_len] at this
  have hcase : kind = 1 ∨ kind = 2 ∨ kind = 3 ∨ kind = 4 ∨ kind = 5 ∨ kind = 6 ∨ kind = 7 ∨ kind = 8 ∨ kind = 9 ∨ kind = 10 ∨ kind = 11 := by omega
  rcases hcase with rfl | rfl | rfl | rfl | rfl | rfl | rfl | rfl | rfl | rfl | rfl
  · rcases k1 rfl with ht | ht
    · obtain ⟨b, o, p, q, rfl, rfl, g1, g2⟩ := txs_two h1 (by omega)
      simp at hD
      subst hD
      exact act1_ref w sub p q _ b o c1 g1 g2
    · subst ht
      have : D = [] := List.eq_nil_of_length_eq_zero (by simpa using hDl)
      subst this
      exact act1z_ref w sub _ A1 c1
  · obtain rfl := hsub (by decide) (by decide)
    exact act2_ref w _ _
  · obtain rfl := hsub (by decide) (by decide)
    exact act3_ref w _ _
  · obtain rfl := hsub (by decide) (by decide)
    obtain ⟨b, o, n, m, rfl, rfl, g1, g2⟩ := ints_two h2 (k4 rfl)
    exact act4_ref w n m _ b o c2 g1 g2
  · obtain rfl := hsub (by decide) (by decide)
    have hl := k5 (.inl rfl)
    obtain ⟨b, o, n, rfl, hn, g1⟩ := ints_head h2 hl
    rcases nums with _ | ⟨n', r⟩ <;> simp at hn
    subst hn
    exact act5_ref w _ _ b o _ c2 (by omega) g1
  · obtain rfl := hsub (by decide) (by decide)
    obtain ⟨b, o, p, q, rfl, rfl, g1, g2⟩ := txs_two h1 (by rw [hDl]; exact k6 (.inl rfl))
    simp at hD
    subst hD
    exact act6_ref w p q (hDs q (by simp)) _ b o c1 g1 g2
  · obtain rfl := hsub (by decide) (by decide)
    have hl := k7 rfl
    obtain ⟨b, o, p, rfl, hp, g1⟩ := txs_head h1 (by omega)
    rcases D with _ | ⟨p', r⟩ <;> simp at hp
    subst hp
    subst hD
    exact act7_ref w _ _ b o _ c1 (by simp) g1
  · obtain ⟨l1, l2⟩ := k8 rfl
    obtain ⟨b, o, p, q, rfl, rfl, g1, g2⟩ := txs_two h1 (by omega)
    obtain ⟨b2, o2, n, m, rfl, rfl, g3, g4⟩ := ints_two h2 l2
    simp at hD
    subst hD
    exact act8_ref w sub n m p q (hDs q (by simp)) b o c1 b2 o2 c2 g1 g2 g3 g4
  · obtain rfl := hsub (by decide) (by decide)
    obtain ⟨b, o, p, q, rfl, rfl, g1, g2⟩ := txs_two h1 (by rw [hDl]; exact k6 (.inr rfl))
    simp at hD
    subst hD
    exact act9_ref w p q (hDs q (by simp)) _ b o c1 g1 g2
  · obtain rfl := hsub (by decide) (by decide)
    have hl := k5 (.inr (.inl rfl))
    obtain ⟨b, o, n, rfl, hn, g1⟩ := ints_head h2 hl
    rcases nums with _ | ⟨n', r⟩ <;> simp at hn
    subst hn
    exact act10_ref w _ _ b o _ c2 (by omega) g1
  · obtain rfl := hsub (by decide) (by decide)
    have hl := k5 (.inr (.inr rfl))
    obtain ⟨b, o, n, rfl, hn, g1⟩ := ints_head h2 hl
    rcases nums with _ | ⟨n', r⟩ <;> simp at hn
    subst hn
    exact act11_ref w _ _ b o _ c2 (by omega) g1
theorem textsR_mem : ∀ (cs : List UInt8) (xs : List (List UInt8)), ∀ t ∈ textsR cs xs, t ∈ xs
  | [], _, t, h => by simp [textsR] at h
  | c :: cs, [], t, h => by simp [textsR] at h
  | c :: cs, x :: xs, t, h => by
    rw [textsR] at h
    split at h
    · rcases List.mem_cons.1 h with rfl | h
      · simp
      · exact List.mem_cons_of_mem _ (textsR_mem cs xs t h)
    · exact List.mem_cons_of_mem _ (textsR_mem cs xs t h)
theorem textsR_len : ∀ (cs : List UInt8) (xs : List (List UInt8)), xs.length = cs.length → (textsR cs xs).length = cs.count 116
  | [], _, _ => by simp [textsR]
  | c :: cs, [], h => by simp at h
  | c :: cs, x :: xs, h => by
    have ih := textsR_len cs xs (by simpa using h)
    rw [textsR, List.count_cons]
    by_cases hc : c = 116
    · rw [if_pos hc, List.length_cons, ih]; simp [hc]
    · rw [if_neg hc, ih]; simp [hc]
theorem numsR_len : ∀ (cs : List UInt8) (xs : List (List UInt8)) (l : List Int), xs.length = cs.length → numsR cs xs = some l → l.length = cs.count 110
  | [], _, l, _, h => by simp [numsR] at h; simp [← h]
  | c :: cs, [], l, h, _ => by simp at h
  | c :: cs, x :: xs, l, h, hn => by
    have hl : xs.length = cs.length := by simpa using h
    rw [List.count_cons]
    by_cases hc : c = 110
    · rw [numsR_n hc] at hn
      cases hp : numP x with
      | none => rw [hp] at hn; cases hn
      | some n =>
        rw [hp] at hn
        simp only [Option.map_eq_some_iff] at hn
        obtain ⟨l', h1, rfl⟩ := hn
        rw [List.length_cons, numsR_len cs xs l' hl h1]
        simp [hc]
    · rw [numsR_o hc] at hn
      rw [numsR_len cs xs l hl hn]
      simp [hc]
theorem rrest_mem : ∀ (l : List (List UInt8)), ∀ x ∈ rrest l, x ∈ l
  | [], x, h => by simp [rrest] at h
  | [_], x, h => by simp [rrest] at h
  | a :: b :: r, x, h => by
    rw [rrest] at h
    split at h
    · simp [h]
    · exact List.mem_cons_of_mem _ h
theorem rforms_wf : ∀ F ∈ RFORMS, (1 ≤ F.kind ∧ F.kind ≤ 11) ∧ (F.kind = 1 → F.says.count 116 = 2 ∨ F.says.count 116 = 0) ∧ (F.kind = 4 → F.says.count 110 = 2) ∧ (F.kind = 5 ∨ F.kind = 10 ∨ F.kind = 11 → F.says.count 110 = 1) ∧ (F.kind = 6 ∨ F.kind = 9 → F.says.count 116 = 2) ∧ (F.kind = 7 → F.says.count 116 = 1) ∧ (F.kind = 8 → F.says.count 116 = 2 ∧ F.says.count 110 = 2) ∧ (F.kind ≠ 1 → F.kind ≠ 8 → F.sub = 0) := by decide +kernel
theorem rparse_wf {s : List UInt8} (hs : s.length ≤ 1048576) (h : (rparse s).2 = 0) : WfR (rparse s).1 := by
  unfold rparse at h ⊢
  by_cases he : wordsErr s ≠ 0
  · rw [if_pos he] at h
    exact absurd h he
  · rw [if_neg he] at h ⊢
    unfold rparseW at h ⊢
    cases hf : RFORMS.find? (rmatch (wordsOf s)) with
    | none => rw [hf] at h; simp at h
    | some F =>
      rw [hf] at h
      simp only at h ⊢
      have hF := List.mem_of_find?_eq_some hf
      obtain ⟨⟨f1, f2⟩, f3, f4, f5, f6, f7, f8, f9⟩ := rforms_wf F hF
      have hsm : ∀ x ∈ rrest (wordsOf s), x.length ≤ 1048576 := fun x hx => Nat.le_trans (wordsOf_len (rrest_mem _ x hx)) hs
      generalize rrest (wordsOf s) = ws at *
      unfold rform at h ⊢
      by_cases hl : ws.length ≠ F.says.length
      · rw [if_pos hl] at h; simp at h
      · rw [if_neg hl] at h ⊢
        have hl := Decidable.not_not.1 hl
        cases hn : numsR F.says ws with
        | none => rw [hn] at h; simp at h
        | some ns =>
          rw [hn] at h
          simp only at h ⊢
          by_cases h8 : F.kind = 8 ∧ subR 0 F.says ws = 0
          · rw [if_pos h8] at h; simp at h
          · rw [if_neg h8]
            have t1 := textsR_len F.says ws hl
            have t2 := numsR_len F.says ws ns hl hn
            refine ⟨?_, ?_, ?_, ?_, ?_, ?_, ?_, ?_, ?_, fun t ht => hsm t (textsR_mem _ _ t ht)⟩
            · simp only; omega
            · simp only; omega
            · intro hk
              simp only at hk
              rcases f3 (by omega) with e | e
              · exact .inl (by simp only; omega)
              · exact .inr (List.eq_nil_of_length_eq_zero (by simp only; omega))
            · intro hk; simp only at hk ⊢; have := f4 (by omega); omega
            · intro hk; simp only at hk ⊢; have := f5 (by omega); omega
            · intro hk; simp only at hk ⊢; have := f6 (by omega); omega
            · intro hk; simp only at hk ⊢; have := f7 (by omega); omega
            · intro hk; simp only at hk ⊢; have := f8 (by omega); omega
            · intro h1 h2
              simp only at h1 h2 ⊢
              rw [if_neg (by omega)]
              have := f9 (by omega) (by omega)
              omega
end Go.Proofs.YtbmnbhammganfaaDoor
