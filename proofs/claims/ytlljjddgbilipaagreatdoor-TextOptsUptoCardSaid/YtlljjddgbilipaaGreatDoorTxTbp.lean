/-
  Plain: blanks at the ends of a line, and more of them between its words, change nothing.
-/
import Derived.Test.YtlljjddgbilipaaGreatDoorTxAct
namespace Go.Proofs.YtlljjddgbilipaaGreatDoor
open Go.RowKit

theorem uniL_behind (l : List UInt8) : uniL (l ++ [32]) = uniL l := by
  match l with
  | [] => rfl
  | [a] => simp [uniL]
  | [a, b] => simp [uniL]
  | [a, b, c] => simp [uniL]
  | [a, b, c, d] =>
    have h32 : hexV 32 = none := by decide
    simp only [List.cons_append, List.nil_append, uniL]
    split <;> simp_all [uniL]
  | a :: b :: c :: d :: e :: r =>
    simp only [List.cons_append]
    unfold uniL
    split
    · rename_i h
      cases h
      rfl
    · rename_i h
      split
      · rename_i h2
        cases h2
        exact absurd rfl (h _ _ _)
      · rfl
theorem escL_behind (l : List UInt8) : escL (l ++ [32]) = escL l := by
  cases l with
  | nil => rfl
  | cons c r =>
    have h := uniL_behind (c :: r)
    rw [List.cons_append] at h ⊢
    rw [escL_cons, escL_cons, h]
theorem quotedK_behind : ∀ (n : Nat) (l : List UInt8), n ≤ l.length → quotedK n (l ++ [32]) = (quotedK n l).map fun p => (p.1, p.2 ++ [32])
  | 0, [], _ => by decide
  | n + 1, [], h => by simp at h
  | n + 1, c :: r, h => by
    rw [List.cons_append, quotedK, quotedK]
    exact quotedK_behind n r (by simpa using h)
  | 0, c :: r, _ => by
    have he := escL_behind r
    rw [List.cons_append, quotedK, quotedK, he]
    by_cases h1 : oddB c = true
    · rw [if_pos h1, if_pos h1]; rfl
    rw [if_neg h1, if_neg h1]
    by_cases h2 : c = 34
    · rw [if_pos h2, if_pos h2]; rfl
    rw [if_neg h2, if_neg h2]
    by_cases h3 : c = 92
    · rw [if_pos h3, if_pos h3]
      cases h4 : escL r with
      | none => rfl
      | some q =>
        obtain ⟨x, n⟩ := q
        simp only
        rw [quotedK_behind n r (escL_len h4).2]
        cases quotedK n r <;> rfl
    · rw [if_neg h3, if_neg h3]
      rw [quotedK_behind 0 r (Nat.zero_le _)]
      cases quotedK 0 r <;> rfl
theorem takeWhile_behind (l : List UInt8) : (l ++ [32]).takeWhile bareB = l.takeWhile bareB ∧ (l ++ [32]).dropWhile bareB = l.dropWhile bareB ++ [32] := by
  have h32 : bareB 32 = false := by decide
  induction l with
  | nil => simp [h32]
  | cons c r ih =>
    by_cases h : bareB c = true
    · rw [List.cons_append, List.takeWhile_cons_of_pos h, List.takeWhile_cons_of_pos h, List.dropWhile_cons_of_pos h, List.dropWhile_cons_of_pos h, ih.1, ih.2]
      exact ⟨rfl, rfl⟩
    · rw [List.cons_append, List.takeWhile_cons_of_neg h, List.takeWhile_cons_of_neg h, List.dropWhile_cons_of_neg h, List.dropWhile_cons_of_neg h]
      exact ⟨rfl, rfl⟩
theorem rawW_behind {r : List UInt8} (h : r ≠ []) : rawW (r ++ [32]) = (rawW r).map fun p => (p.1, p.2 ++ [32]) := by
  cases r with
  | nil => exact absurd rfl h
  | cons c t =>
    have hw := takeWhile_behind (c :: t)
    rw [List.cons_append] at hw ⊢
    rw [rawW_cons, rawW_cons, hw.1, hw.2, quotedK_behind 0 t (Nat.zero_le _)]
    by_cases h1 : c = 34
    · rw [if_pos h1, if_pos h1]
    rw [if_neg h1, if_neg h1]
    by_cases h2 : bareB c = true
    · rw [if_pos h2, if_pos h2]; rfl
    · rw [if_neg h2, if_neg h2]; rfl
theorem endW_behind (l : List UInt8) : endW (l ++ [32]) ↔ endW l := by
  cases l with
  | nil => simp [endW]
  | cons c r => simp [endW]
theorem wordL_behind {r : List UInt8} (h : r ≠ []) : wordL (r ++ [32]) = (wordL r).map fun p => (p.1, p.2 ++ [32]) := by
  unfold wordL
  rw [rawW_behind h]
  cases rawW r with
  | none => rfl
  | some p =>
    simp only [Option.map_some]
    by_cases he : endW p.2
    · rw [if_pos he, if_pos ((endW_behind _).2 he)]; rfl
    · rw [if_neg he, if_neg (fun h => he ((endW_behind _).1 h))]; rfl
theorem trimB_behind (s : List UInt8) : trimB (s ++ [32]) = if trimB s = [] then [] else trimB s ++ [32] := by
  unfold trimB
  induction s with
  | nil => simp
  | cons c r ih =>
    by_cases h : c = 32
    · rw [List.cons_append, List.dropWhile_cons_of_pos (by simpa using h), List.dropWhile_cons_of_pos (by simpa using h)]
      exact ih
    · rw [List.cons_append, List.dropWhile_cons_of_neg (by simpa using h), List.dropWhile_cons_of_neg (by simpa using h), if_neg (by simp)]
      rfl
theorem wordsL_behind_ : ∀ (n : Nat) (s : List UInt8), s.length ≤ n → wordsL (s ++ [32]) = wordsL s
  | n, s, hn => by
    rw [wordsL_eq, wordsL_eq s, trimB_behind]
    by_cases h : trimB s = []
    · rw [if_pos h, if_pos h]; rfl
    · rw [if_neg h, if_neg h, if_neg (by simp), wordL_behind h]
      cases hw : wordL (trimB s) with
      | none => rfl
      | some p =>
        have h1 := wordL_len hw
        have h2 := trimB_le s
        match n with
        | 0 => omega
        | n + 1 =>
          have ih := wordsL_behind_ n p.2 (by omega)
          simp only [Option.map_some]
          rw [ih]
theorem wordsL_behind (s : List UInt8) : wordsL (s ++ [32]) = wordsL s := wordsL_behind_ s.length s (Nat.le_refl _)
/-- words, each quoted, behind three blanks -/
def wideL (l : List (List UInt8)) : List UInt8 := l.flatMap fun x => 32 :: 32 :: 32 :: quoteL x
theorem wideL_end (l : List (List UInt8)) : endW (wideL l) := by
  cases l with
  | nil => exact .inl rfl
  | cons x r => exact .inr rfl
theorem wordsL_wide : ∀ l : List (List UInt8), wordsL (wideL l) = some l
  | [] => rfl
  | x :: r => by
    have ih := wordsL_wide r
    have hx : wideL (x :: r) = 32 :: 32 :: 32 :: (quoteL x ++ wideL r) := rfl
    have hq := wordL_quote x (wideL r) (wideL_end r)
    have ht : trimB (quoteL x ++ wideL r) = quoteL x ++ wideL r := trimB_no ⟨34, _, rfl, by decide⟩
    rw [hx, wordsL_blank, wordsL_blank, wordsL_blank, wordsL_eq, ht, if_neg (by simp [quoteL]), hq]
    simp only
    rw [ih]
    rfl
theorem wordsF_sum : ∀ (n : Nat) (s : List UInt8) (l : List (List UInt8)), wordsF n s = some l → (l.map List.length).sum ≤ s.length ∧ l.length ≤ s.length
  | 0, _, _, h => by simp [wordsF] at h
  | n + 1, s, l, h => by
    unfold wordsF at h
    split at h
    · cases h
      simp
    · split at h
      · cases h
      · rename_i p hp
        rw [Option.map_eq_some_iff] at h
        obtain ⟨q, h1, rfl⟩ := h
        have h3 := wordL_wlen hp
        have h5 := wordL_len hp
        have h4 := trimB_le s
        have ⟨h6, h7⟩ := wordsF_sum n p.2 q h1
        rw [List.map_cons, List.sum_cons, List.length_cons]
        exact ⟨by omega, by omega⟩
theorem quoteL_len_le (x : List UInt8) : (quoteL x).length ≤ 6 * x.length + 2 := by
  have hb : ∀ c : UInt8, (quoteB c).length ≤ 6 := fun c => by
    unfold quoteB
    split
    · simp
    · split <;> simp
  have h : ∀ l : List UInt8, (l.flatMap quoteB).length ≤ 6 * l.length := fun l => by
    induction l with
    | nil => simp
    | cons c r ih =>
      have := hb c
      rw [List.flatMap_cons, List.length_append, List.length_cons]
      omega
  have := h x
  unfold quoteL
  rw [List.length_cons, List.length_append, List.length_singleton]
  omega
theorem wideL_len (l : List (List UInt8)) : (wideL l).length ≤ 6 * (l.map List.length).sum + 5 * l.length := by
  induction l with
  | nil => simp [wideL]
  | cons x r ih =>
    have h1 : wideL (x :: r) = 32 :: 32 :: 32 :: (quoteL x ++ wideL r) := rfl
    have h2 := quoteL_len_le x
    rw [h1, List.length_cons, List.length_cons, List.length_cons, List.length_append, List.map_cons, List.sum_cons, List.length_cons]
    omega
theorem wideL_snoc (l : List (List UInt8)) (x : List UInt8) : wideL (l ++ [x]) = wideL l ++ (32 :: 32 :: 32 :: quoteL x) := by simp [wideL]
theorem wideL_take {l : List (List UInt8)} {s : List UInt8} (h : wordsL s = some l) (k : Nat) : (wideL (l.take k)).length ≤ 11 * s.length := by
  have h1 := wordsF_sum _ _ _ h
  have h2 := wideL_len (l.take k)
  have h3 : ((l.take k).map List.length).sum ≤ (l.map List.length).sum := by
    have h5 : (l.map List.length).sum = ((l.take k).map List.length).sum + ((l.drop k).map List.length).sum := by rw [← List.sum_append, ← List.map_append, List.take_append_drop]
    omega
  have h4 : (l.take k).length ≤ l.length := by rw [List.length_take]; omega
  omega
/-- blanks at the ends change nothing -/
theorem ends_words {s t : List UInt8} (hs : s.length ≤ 65536) (ht : t.length ≤ 65536) (h : wordsL t = wordsL s) : wordsErr t = wordsErr s ∧ wordsOf t = wordsOf s ∧ parseA t = parseA s := by
  have h1 : wordsErr t = wordsErr s := by unfold wordsErr; rw [if_neg (by omega), if_neg (by omega), h]
  have h2 : wordsOf t = wordsOf s := by unfold wordsOf; rw [if_neg (by omega), if_neg (by omega), h]
  exact ⟨h1, h2, by unfold parseA; rw [h1, h2]⟩
theorem wide_words {s : List UInt8} (hs : s.length ≤ 2000) (h0 : wordsErr s = 0) : wordsErr (wideL (wordsOf s)) = 0 ∧ wordsOf (wideL (wordsOf s)) = wordsOf s ∧ parseA (wideL (wordsOf s)) = parseA s ∧ ∀ k, (wideL ((wordsOf s).take k)).length ≤ 22000 := by
  cases hl : wordsL s with
  | none => have := (words_bad (by omega) hl).1; rw [this] at h0; cases h0
  | some l =>
    have h1 := (words_good (by omega) hl).2
    have h2 : ∀ k, (wideL (l.take k)).length ≤ 22000 := fun k => by have := wideL_take hl k; omega
    have h3 := h2 l.length
    rw [List.take_of_length_le (Nat.le_refl _)] at h3
    rw [h1]
    have h4 := ends_words (s := s) (t := wideL l) (by omega) (by omega) (by rw [wordsL_wide, hl])
    rw [h0, h1] at h4
    exact ⟨h4.1, h4.2.1, h4.2.2, h2⟩
end Go.Proofs.YtlljjddgbilipaaGreatDoor
