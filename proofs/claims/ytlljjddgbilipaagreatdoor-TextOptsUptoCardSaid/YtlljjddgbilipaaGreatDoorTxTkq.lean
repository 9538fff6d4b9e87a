/-
  Plain, as TextBack asks it.
-/
import Derived.Test.YtlljjddgbilipaaGreatDoorTxTkp
namespace Go.Proofs.YtlljjddgbilipaaGreatDoor
open Go.RowKit

set_option linter.unusedSimpArgs false

theorem parse_zero {s : List UInt8} (h : (parseA s).2 ≠ 0) : (parseA s).1 = zAct := by
  unfold parseA at h ⊢
  split
  · rfl
  rename_i he
  rw [if_neg he] at h
  unfold parseW at h ⊢
  split
  · rfl
  rename_i f k hf
  rw [hf] at h
  simp only at h
  split
  · rfl
  rename_i hl
  rw [if_neg hl] at h
  split
  · rfl
  rename_i a syn hp
  rw [hp] at h
  simp only at h
  split
  · rfl
  rename_i hs
  rw [if_neg hs] at h
  exact absurd rfl h
theorem writeW_len6 (x : List UInt8) : (writeW x).length ≤ 6 * x.length + 2 := by
  unfold writeW
  split
  · omega
  · exact quoteL_len_le x
theorem joinB_len6 (l : List (List UInt8)) : (joinB (l.map writeW)).length ≤ 6 * (l.map List.length).sum + 3 * l.length := by
  induction l with
  | nil => simp [joinB]
  | cons x r ih =>
    have h1 := writeW_len6 x
    cases r with
    | nil => simp [joinB]; omega
    | cons y r =>
      have h2 : joinB ((x :: y :: r).map writeW) = writeW x ++ 32 :: joinB ((y :: r).map writeW) := rfl
      rw [h2, List.length_append, List.length_cons]
      generalize joinB ((y :: r).map writeW) = J at ih ⊢
      generalize y :: r = R at ih ⊢
      rw [List.map_cons, List.sum_cons, List.length_cons]
      omega
theorem back3 {s : List UInt8} {c : ActD} (h : parseA s = (c, 0)) : ((formatA c).2 = 13 ∧ 10 < s.length) ∨ ((formatA c).2 = 0 ∧ parseA (formatA c).1 = (c, 0)) := by
  have h2 := back2 h
  have h3 : ∀ t, formatA c = (t, 0) → parseA t = (c, 0) := fun t ht => back1 ht
  unfold limP at h2
  by_cases hl : 65536 < (joinB ((wordsOf s).map writeW)).length
  · rw [if_pos hl] at h2
    refine .inl ⟨by rw [h2], ?_⟩
    have hw : ((wordsOf s).map List.length).sum ≤ s.length := by
      unfold wordsOf
      split
      · simp
      · split
        · simp
        · rename_i l hl2
          exact (wordsF_sum _ _ _ hl2).1
    have hw2 : (wordsOf s).length ≤ s.length := by
      unfold wordsOf
      split
      · simp
      · split
        · simp
        · rename_i l hl2
          exact (wordsF_sum _ _ _ hl2).2
    have := joinB_len6 (wordsOf s)
    omega
  · rw [if_neg hl] at h2
    refine .inr ⟨by rw [h2], ?_⟩
    rw [h2]
    exact h3 _ h2
theorem newK_ok {k : Int} (x : List UInt8) (h : -9223372036854775808 ≤ k ∧ k ≤ 9223372036854775807) : -9223372036854775808 ≤ newK k x ∧ newK k x ≤ 9223372036854775807 := by
  unfold newK
  cases hf : KT.find? (fun p => decide (p.2 = x)) with
  | none => exact h
  | some p =>
    have h1 := List.mem_of_find?_eq_some hf
    have hall : ∀ q ∈ KT, -9223372036854775808 ≤ q.1 ∧ q.1 ≤ 9223372036854775807 := by decide
    exact hall p h1
theorem stepF_ok {c : UInt8} {x : List UInt8} {s s' : ActD × Bool} (hx : x.length ≤ 1048576) (h : ActOk s.1) (hs : stepF c x s = some s') : ActOk s'.1 := by
  obtain ⟨h1, h2, h3, h4, h5, h6, h7, h8, h9, h10, h11⟩ := h
  unfold stepF at hs
  split at hs
  · cases hs
    unfold setT
    repeat' split
    all_goals constructor <;> first | assumption | exact hx
  split at hs
  · cases hs
    unfold setB
    repeat' split
    all_goals constructor <;> first | assumption | exact hx
  split at hs
  · rw [Option.map_eq_some_iff] at hs
    obtain ⟨n, hn, rfl⟩ := hs
    have hn2 := (numP_iff.1 hn).2
    have hn3 : -9223372036854775808 ≤ n ∧ n ≤ 9223372036854775807 := by omega
    unfold setN
    repeat' split
    all_goals constructor <;> first | assumption | exact hn3
  split at hs
  · cases hs
    constructor <;> first | assumption | exact newK_ok x h11
  · cases hs
    exact ⟨h1, h2, h3, h4, h5, h6, h7, h8, h9, h10, h11⟩
theorem parseF_ok : ∀ (cs : List UInt8) (xs : List (List UInt8)) (s s' : ActD × Bool), (∀ x ∈ xs, x.length ≤ 1048576) → ActOk s.1 → parseF cs xs s = some s' → ActOk s'.1
  | [], _, s, s', _, h, hp => by simp [parseF] at hp; subst hp; exact h
  | _ :: _, [], s, s', _, h, hp => by simp [parseF] at hp; subst hp; exact h
  | c :: cs, x :: xs, s, s', hx, h, hp => by
    rw [parseF] at hp
    cases hs : stepF c x s with
    | none => rw [hs] at hp; cases hp
    | some s1 =>
      rw [hs] at hp
      exact parseF_ok cs xs s1 s' (fun y hy => hx y (by simp [hy])) (stepF_ok (hx x (by simp)) h hs) hp
theorem zAct_ok : ActOk zAct := ⟨by decide, by decide, by decide, by decide, by decide, by decide, by decide, by decide, by decide, by decide, by decide⟩
theorem initA_ok (f : Form) : ActOk (initA f) := ⟨zAct_ok.path, zAct_ok.ver, zAct_ok.name, zAct_ok.url, zAct_ok.data, zAct_ok.fdata, zAct_ok.n, zAct_ok.m, zAct_ok.att, zAct_ok.fn, zAct_ok.fk⟩
theorem parse_ok {s : List UInt8} (hs : s.length ≤ 1048576) : ActOk (parseA s).1 := by
  unfold parseA
  split
  · exact zAct_ok
  unfold parseW
  split
  · exact zAct_ok
  split
  · exact zAct_ok
  split
  · exact zAct_ok
  rename_i a syn hp
  split
  · exact zAct_ok
  · exact parseF_ok _ _ _ _ (fun x hx => Nat.le_trans (wordsOf_len (List.mem_of_mem_drop hx)) hs) (initA_ok _) hp
end Go.Proofs.YtlljjddgbilipaaGreatDoor
