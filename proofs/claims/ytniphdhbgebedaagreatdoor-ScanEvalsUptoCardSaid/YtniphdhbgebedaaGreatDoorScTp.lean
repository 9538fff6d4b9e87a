/-
  Plain: the lexer gets on.
-/
import Derived.Test.YtniphdhbgebedaaGreatDoorScWn
namespace Go.Proofs.YtniphdhbgebedaaGreatDoor

theorem take_fact (l : Lx) (n : Nat) (h : n ≤ l.rest.length) : (l.take n).rest.length = l.rest.length - n ∧ (l.take n).line ≤ l.line + n := by
  refine ⟨by unfold Lx.take; simp, ?_⟩
  have h2 := List.countP_le_length (p := fun c : UInt8 => c == 10) (l := l.rest.take n)
  rw [List.length_take] at h2
  show l.line + nls (l.rest.take n) ≤ _
  unfold nls
  omega
theorem nls_le (s : List UInt8) : nls s ≤ s.length := List.countP_le_length
def NxOk (l : Lx) (R : List Tok × Lx) : Prop :=
  (hasB R.1 = false → R.1.length + R.2.rest.length ≤ l.rest.length ∧ R.2.rest.length < l.rest.length) ∧ R.2.line + R.2.rest.length ≤ l.line + l.rest.length ∧ (hasB R.1 = true → R.1.length = 1)
theorem nx_take {l : Lx} {ts : List Tok} {n : Nat} (h1 : 1 ≤ n) (hn : n ≤ l.rest.length) (ht : ts.length ≤ n) (hb : hasB ts = true → ts.length = 1) : NxOk l (ts, l.take n) := by
  obtain ⟨e1, e2⟩ := take_fact l n hn
  exact ⟨fun _ => ⟨by simp only [e1]; omega, by simp only [e1]; omega⟩, by simp only [e1]; omega, hb⟩
theorem nx_bad {l : Lx} {t : Tok} (h : t.kind = 33) : NxOk l ([t], l) := by
  have : hasB [t] = true := by simp [hasB, h]
  exact ⟨(fun h' => absurd (this.symm.trans h') (by simp)), Nat.le_refl _, fun _ => rfl⟩
theorem next_facts (l : Lx) (h : l.rest ≠ []) : NxOk l l.next := by
  obtain ⟨rest, line, first⟩ := l
  cases rest with
  | nil => exact absurd rfl h
  | cons c r =>
    have hlen : (c :: r).length = r.length + 1 := rfl
    unfold Lx.next
    simp only
    split
    · exact nx_take (l := ⟨c :: r, line, first⟩) (ts := []) (by omega) (by simp only; omega) (by simp) (by simp [hasB])
    split
    · exact nx_take (l := ⟨c :: r, line, first⟩) (by omega) (by simp only; omega) (by simp) (by simp)
    split
    · have hn : (idx 10 (c :: r)).getD (c :: r).length ≤ (c :: r).length := by
        cases hi : idx 10 (c :: r) with
        | none => exact Nat.le_refl _
        | some m => exact Nat.le_of_lt (idx_lt hi)
      rename_i h1 h2 h3
      have hn1 : 1 ≤ (idx 10 (c :: r)).getD (c :: r).length := by
        rw [idx, if_neg (by rw [h3.1]; decide)]
        cases idx 10 r <;> simp
      refine nx_take (l := ⟨c :: r, line, first⟩) hn1 hn ?_ ?_
      · split <;> simp <;> omega
      · split <;> simp [hasB]
    split
    · rename_i h1 h2 h3 h4
      split
      · exact nx_bad (l := ⟨c :: r, line, first⟩) rfl
      · rename_i n hi
        have hn := idx2_lt hi
        rw [List.length_drop] at hn
        have hr1 : 1 ≤ r.length := by
          cases r with
          | nil => simp at h4
          | cons a b => simp
        refine nx_take (l := ⟨c :: r, line, first⟩) (by omega) (by simp only; omega) ?_ ?_
        · rw [List.length_map, List.length_range]
          have := nls_le ((c :: r).take (n + 4))
          rw [List.length_take] at this
          omega
        · intro hb
          simp [hasB] at hb
    split
    · rename_i h1 h2 h3 h4 h5
      refine nx_take (l := ⟨c :: r, line, first⟩) (by omega) (by simp only; omega) (by simp) (by simp)
    split
    · have : (r.takeWhile fun x => letB x || digB x).length ≤ r.length := (List.takeWhile_sublist _).length_le
      refine nx_take (l := ⟨c :: r, line, first⟩) (by omega) (by simp only; omega) (by simp) (by simp)
    split
    · split
      · rename_i n hi
        have := idx_lt hi
        exact nx_take (l := ⟨c :: r, line, first⟩) (by omega) (by simp only; omega) (by simp) (by simp)
      · exact nx_bad (l := ⟨c :: r, line, first⟩) rfl
    split
    · split
      · rename_i s n hi
        have := quoF_len r [] 1 hi
        exact nx_take (l := ⟨c :: r, line, first⟩) (by omega) (by simp only; omega) (by simp; omega) (by simp)
      · exact nx_bad (l := ⟨c :: r, line, first⟩) rfl
    · exact nx_bad (l := ⟨c :: r, line, first⟩) rfl
theorem cutB_len (l : List Tok) : (cutB l).length ≤ l.length := by
  induction l with
  | nil => simp [cutB]
  | cons t r ih => rw [cutB]; split <;> simp <;> omega
theorem toksF_len : ∀ (n : Nat) (l : Lx), (toksF n l).length ≤ l.rest.length + 1
  | 0, l => by simp [toksF]
  | n + 1, l => by
    rw [toksF]
    split
    · simp
    · rename_i h
      obtain ⟨h1, h2, h3⟩ := next_facts l h
      have hp := List.length_pos_iff.2 h
      split
      · rename_i hb
        have := cutB_len l.next.1
        have := h3 hb
        omega
      · rename_i hb
        have ih := toksF_len n l.next.2
        have := (h1 (Bool.eq_false_iff.2 hb)).1
        rw [List.length_append]
        omega
/-- up to the i-th token none was bad, this one is -/
theorem cutB_at : ∀ {ts : List Tok} {i : Nat} {t : Tok}, hasB (ts.take i) = false → ts[i]? = some t → t.kind = 33 → cutB ts = ts.take i ++ [t] ∧ hasB ts = true
  | [], i, t, _, h2, _ => by simp at h2
  | a :: r, 0, t, _, h2, h3 => by
    simp at h2
    subst h2
    exact ⟨by simp [cutB, h3], by simp [hasB, h3]⟩
  | a :: r, i + 1, t, h1, h2, h3 => by
    simp only [List.take_succ_cons, hasB, List.any_cons, Bool.or_eq_false_iff] at h1
    obtain ⟨e1, e2⟩ := cutB_at (ts := r) (i := i) (t := t) h1.2 (by simpa using h2) h3
    have ha : a.kind ≠ 33 := beq_eq_false_iff_ne.1 h1.1
    refine ⟨by rw [cutB, if_neg ha, e1]; rfl, ?_⟩
    unfold hasB at e2 ⊢
    rw [List.any_cons, e2, Bool.or_true]
theorem hasB_snoc {ts : List Tok} {i : Nat} {t : Tok} (h1 : hasB (ts.take i) = false) (h2 : ts[i]? = some t) (h3 : t.kind ≠ 33) : hasB (ts.take (i + 1)) = false := by
  rw [List.take_add_one, h2]
  unfold hasB at h1 ⊢
  rw [List.any_append, h1]
  simp [h3]
/-- what has come is a beginning of what is there -/
theorem cutB_pre : ∀ {ts : List Tok} {i : Nat}, hasB (ts.take i) = false → i < ts.length → (ts.take (i + 1)) <+: cutB ts
  | [], i, _, h => by simp at h
  | a :: r, 0, _, _ => by
    rw [cutB]
    split
    · simp
    · exact ⟨cutB r, by simp⟩
  | a :: r, i + 1, h1, h2 => by
    simp only [List.take_succ_cons, hasB, List.any_cons, Bool.or_eq_false_iff] at h1
    have ha : a.kind ≠ 33 := beq_eq_false_iff_ne.1 h1.1
    obtain ⟨u, hu⟩ := cutB_pre (ts := r) (i := i) h1.2 (by simpa using h2)
    rw [cutB, if_neg ha]
    exact ⟨u, by rw [List.take_succ_cons, List.cons_append, hu]⟩
end Go.Proofs.YtniphdhbgebedaaGreatDoor
