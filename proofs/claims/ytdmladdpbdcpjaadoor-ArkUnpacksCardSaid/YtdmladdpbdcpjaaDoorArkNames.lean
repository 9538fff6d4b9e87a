/-
  Names of an archive as plain functions: pieces of a text, which names may be, small letters, the first error of many.
-/
import Derived.Lib.Split
import Derived.Laws.BitsAllLaws
namespace Go.Proofs.YtdmladdpbdcpjaaDoor

/-! ### pieces -/
/-- the pieces of a text between bytes of one kind -/
def pieces (c : UInt8) : List UInt8 → List (List UInt8)
  | [] => [[]]
  | x :: r => if x = c then [] :: pieces c r else match pieces c r with
    | p :: ps => (x :: p) :: ps
    | [] => [[x]]
theorem pieces_ne (c : UInt8) : ∀ l, pieces c l ≠ []
  | [] => by simp [pieces]
  | x :: r => by
    unfold pieces
    split
    · simp
    · split <;> simp
theorem pieces_cut (c : UInt8) (r : List UInt8) : ∀ p : List UInt8, c ∉ p → pieces c (p ++ c :: r) = p :: pieces c r
  | [], _ => by simp [pieces]
  | x :: p, h => by
    have hx : x ≠ c := fun e => h (by simp [e])
    have ih := pieces_cut c r p (fun hh => h (by simp [hh]))
    rw [List.cons_append, pieces, if_neg hx, ih]
theorem pieces_end (c : UInt8) : ∀ p : List UInt8, c ∉ p → pieces c p = [p]
  | [], _ => rfl
  | x :: p, h => by
    have hx : x ≠ c := fun e => h (by simp [e])
    have ih := pieces_end c p (fun hh => h (by simp [hh]))
    rw [pieces, if_neg hx, ih]
theorem pieces_all (c : UInt8) (l : List UInt8) : ∀ p ∈ pieces c l, c ∉ p := by
  induction l with
  | nil => simp [pieces]
  | cons x r ih =>
    intro p hp
    unfold pieces at hp
    split at hp
    · rcases List.mem_cons.1 hp with rfl | hp
      · simp
      · exact ih p hp
    · rename_i hx
      split at hp
      · rename_i q ps hq
        rcases List.mem_cons.1 hp with rfl | hp
        · have := ih q (by rw [hq]; simp)
          simp only [List.mem_cons, not_or]
          exact ⟨fun e => hx e.symm, this⟩
        · exact ih p (by rw [hq]; simp [hp])
      · simp only [List.mem_singleton] at hp
        subst hp
        simp only [List.mem_singleton]
        exact fun e => hx e.symm
theorem pieces_length (c : UInt8) : ∀ l : List UInt8, (pieces c l).length ≤ l.length + 1
  | [] => by simp [pieces]
  | x :: r => by
    have ih := pieces_length c r
    unfold pieces
    split
    · simp; omega
    · split
      · rename_i h; rw [h] at ih; simp at ih ⊢; omega
      · simp
theorem pieces_le (c : UInt8) (l : List UInt8) : ∀ p ∈ pieces c l, p.length ≤ l.length := by
  induction l with
  | nil => simp [pieces]
  | cons x r ih =>
    intro p hp
    unfold pieces at hp
    split at hp
    · rcases List.mem_cons.1 hp with rfl | hp
      · simp
      · have := ih p hp; simp; omega
    · split at hp
      · rename_i q ps hq
        rcases List.mem_cons.1 hp with rfl | hp
        · have := ih q (by rw [hq]; simp); simp; omega
        · have := ih p (by rw [hq]; simp [hp]); simp; omega
      · simp only [List.mem_singleton] at hp
        subst hp
        simp

/-! ### names -/
def badByte (c : UInt8) : Bool := decide (c < 0x20) || decide (0x7e < c) || [92, 58, 42, 63, 34, 60, 62, 124].contains c
def okPiece (x : List UInt8) : Bool := x != [] && x != [46] && x != [46, 46] && x.getD 0 0 != 32 && x.getD (x.length - 1) 0 != 32 && x.all (fun c => !badByte c)
def validName (s : List UInt8) : Bool := s != [] && decide (s.length ≤ 200) && (pieces 47 s).all okPiece
def lowB (c : UInt8) : UInt8 := if 65 ≤ c ∧ c ≤ 90 then c + 32 else c
def lowN (s : List UInt8) : List UInt8 := s.map lowB
/-- the error of a name behind others (given small) -/
def nameErr (seen : List (List UInt8)) (n : List UInt8) : Nat := if !validName n then 1 else if seen.contains (lowN n) then 12 else 0
/-- the first error of names -/
def namesErr : List (List UInt8) → List (List UInt8) → Nat
  | _, [] => 0
  | seen, n :: r => if nameErr seen n = 0 then namesErr (seen ++ [lowN n]) r else nameErr seen n
theorem namesErr_append (a b : List (List UInt8)) : ∀ seen, namesErr seen (a ++ b) = if namesErr seen a = 0 then namesErr (seen ++ a.map lowN) b else namesErr seen a := by
  induction a with
  | nil => intro seen; simp [namesErr]
  | cons x a ih =>
    intro seen
    rw [List.cons_append, namesErr, namesErr]
    split
    · rw [ih]; simp [List.append_assoc]
    · rfl
theorem nameErr_le (seen : List (List UInt8)) (n : List UInt8) : nameErr seen n = 0 ∨ nameErr seen n = 1 ∨ nameErr seen n = 12 := by
  unfold nameErr; split
  · simp
  · split <;> simp
theorem namesErr_le (l : List (List UInt8)) : ∀ seen, namesErr seen l = 0 ∨ namesErr seen l = 1 ∨ namesErr seen l = 12 := by
  induction l with
  | nil => intro _; simp [namesErr]
  | cons x l ih =>
    intro seen
    rw [namesErr]
    split
    · exact ih _
    · exact nameErr_le _ _
theorem nameErr_zero {seen : List (List UInt8)} {n : List UInt8} : nameErr seen n = 0 ↔ validName n = true ∧ lowN n ∉ seen := by
  unfold nameErr
  cases validName n
  · simp
  · by_cases h : lowN n ∈ seen <;> simp [h]
/-- names that may stand together: each is one, and no two are alike but for the case of letters -/
theorem namesErr_zero (l : List (List UInt8)) : ∀ seen, namesErr seen l = 0 ↔ (∀ n ∈ l, validName n = true ∧ lowN n ∉ seen) ∧ (l.map lowN).Pairwise (· ≠ ·) := by
  induction l with
  | nil => intro _; simp [namesErr]
  | cons x l ih =>
    intro seen
    rw [namesErr]
    by_cases h : nameErr seen x = 0
    · rw [if_pos h, ih]
      have h2 := nameErr_zero.1 h
      constructor
      · rintro ⟨a, b⟩
        refine ⟨fun n hn => ?_, List.pairwise_cons.2 ⟨fun y hy e => ?_, b⟩⟩
        · rcases List.mem_cons.1 hn with rfl | hn
          · exact h2
          · exact ⟨(a n hn).1, fun hh => (a n hn).2 (List.mem_append.2 (.inl hh))⟩
        · obtain ⟨n, hn, rfl⟩ := List.mem_map.1 hy
          exact (a n hn).2 (List.mem_append.2 (.inr (by simp [e])))
      · rintro ⟨a, b⟩
        obtain ⟨b1, b2⟩ := List.pairwise_cons.1 b
        refine ⟨fun n hn => ⟨(a n (by simp [hn])).1, fun hh => ?_⟩, b2⟩
        rcases List.mem_append.1 hh with hh | hh
        · exact (a n (by simp [hn])).2 hh
        · exact b1 _ (List.mem_map_of_mem hn) (List.mem_singleton.1 hh).symm
    · rw [if_neg h]
      refine iff_of_false h fun hh => h (nameErr_zero.2 (hh.1 x (by simp)))
theorem names_distinct {l : List (List UInt8)} {seen : List (List UInt8)} (h : namesErr seen l = 0) : l.Pairwise (· ≠ ·) := by
  have := ((namesErr_zero l seen).1 h).2
  rw [List.pairwise_map] at this
  exact this.imp fun hab e => hab (by rw [e])
theorem namesErr_perm {a b : List (List UInt8)} (hp : a.Perm b) (seen : List (List UInt8)) : namesErr seen a = 0 ↔ namesErr seen b = 0 := by
  rw [namesErr_zero, namesErr_zero]
  constructor
  · rintro ⟨h1, h2⟩
    exact ⟨fun n hn => h1 n (hp.mem_iff.2 hn), ((hp.map lowN).pairwise_iff (fun h => h.symm)).1 h2⟩
  · rintro ⟨h1, h2⟩
    exact ⟨fun n hn => h1 n (hp.mem_iff.1 hn), ((hp.map lowN).pairwise_iff (fun h => h.symm)).2 h2⟩
theorem validName_len {s : List UInt8} (h : validName s = true) : s.length ≤ 200 := by
  unfold validName at h
  simp only [Bool.and_eq_true, decide_eq_true_eq] at h
  exact h.1.2
end Go.Proofs.YtdmladdpbdcpjaaDoor
