/-
  Plain: a line's words; how a word is written.
-/
import Derived.Test.YtlljjddgbilipaaGreatDoorBase
namespace Go.Proofs.YtlljjddgbilipaaGreatDoor

def toL (s : ByteArray) : List UInt8 := s.data.toList
theorem toL_len (s : ByteArray) : (toL s).length = s.size := by unfold toL; rw [Array.length_toList]; rfl
theorem toL_inj {a b : ByteArray} (h : toL a = toL b) : a = b := by
  cases a; cases b
  unfold toL at h
  simpa using h
def mkS (l : List UInt8) : ByteArray := ⟨l.toArray⟩
theorem toL_mkS (l : List UInt8) : toL (mkS l) = l := rfl
theorem mkS_toL (s : ByteArray) : mkS (toL s) = s := by cases s; simp [mkS, toL]
/-! ### bytes of a word -/
def bareB (c : UInt8) : Bool := decide (33 ≤ c.toNat) && decide (c.toNat ≤ 126) && decide (c ≠ 34) && decide (c ≠ 92)
def oddB (c : UInt8) : Bool := decide (c.toNat < 32) || decide (127 ≤ c.toNat)
def hexV (c : UInt8) : Option Nat := if 48 ≤ c.toNat ∧ c.toNat ≤ 57 then some (c.toNat - 48) else if 97 ≤ c.toNat ∧ c.toNat ≤ 102 then some (c.toNat - 87) else none
def hexD (n : Nat) : UInt8 := if n < 10 then UInt8.ofNat (48 + n) else UInt8.ofNat (87 + n)
/-- what stands behind a \: its byte, and how many bytes it takes -/
def uniL : List UInt8 → Option (UInt8 × Nat)
  | 117 :: 48 :: 48 :: h :: l :: _ => match hexV h, hexV l with
    | some a, some b => if oddB (UInt8.ofNat (16 * a + b)) then some (UInt8.ofNat (16 * a + b), 5) else none
    | _, _ => none
  | _ => none
def escL : List UInt8 → Option (UInt8 × Nat)
  | [] => none
  | c :: r => if c = 34 ∨ c = 92 then some (c, 1) else uniL (c :: r)
theorem escL_cons (c : UInt8) (r : List UInt8) : escL (c :: r) = if c = 34 ∨ c = 92 then some (c, 1) else uniL (c :: r) := rfl
theorem uniL_hex {h l : UInt8} {a b : Nat} (ha : hexV h = some a) (hb : hexV l = some b) (r : List UInt8) : uniL (117 :: 48 :: 48 :: h :: l :: r) = if oddB (UInt8.ofNat (16 * a + b)) then some (UInt8.ofNat (16 * a + b), 5) else none := by
  show (match hexV h, hexV l with
    | some a, some b => if oddB (UInt8.ofNat (16 * a + b)) then some (UInt8.ofNat (16 * a + b), 5) else none
    | _, _ => none) = _
  rw [ha, hb]
/-- a quoted word's bytes behind its first quote (so many bytes are passed over first): what it holds, what stands behind it -/
def quotedK : Nat → List UInt8 → Option (List UInt8 × List UInt8)
  | _, [] => none
  | k + 1, _ :: r => quotedK k r
  | 0, c :: r => if oddB c then none else if c = 34 then some ([], r) else if c = 92 then match escL r with
      | none => none
      | some (x, n) => (quotedK n r).map fun p => (x :: p.1, p.2)
    else (quotedK 0 r).map fun p => (c :: p.1, p.2)
theorem quotedK_drop : ∀ (n : Nat) (l : List UInt8), quotedK n l = quotedK 0 (l.drop n)
  | 0, l => by simp
  | n + 1, [] => by simp [quotedK]
  | n + 1, c :: r => by rw [quotedK, quotedK_drop n r, List.drop_succ_cons]
theorem quotedK_len : ∀ (n : Nat) {l : List UInt8} {p : List UInt8 × List UInt8}, quotedK n l = some p → p.2.length < l.length
  | 0, [], _, h => by simp [quotedK] at h
  | n + 1, [], _, h => by simp [quotedK] at h
  | n + 1, c :: r, p, h => by
    rw [quotedK] at h
    have := quotedK_len n h
    simp
    omega
  | 0, c :: r, p, h => by
    rw [quotedK] at h
    split at h
    · cases h
    split at h
    · cases h; simp
    split at h
    · split at h
      · cases h
      · rename_i x n _
        rw [Option.map_eq_some_iff] at h
        obtain ⟨q, h1, rfl⟩ := h
        have := quotedK_len n h1
        simp
        omega
    · rw [Option.map_eq_some_iff] at h
      obtain ⟨q, h1, rfl⟩ := h
      have := quotedK_len 0 h1
      simp
      omega
def trimB (s : List UInt8) : List UInt8 := s.dropWhile fun c => decide (c = 32)
theorem trimB_le (s : List UInt8) : (trimB s).length ≤ s.length := (List.dropWhile_sublist _).length_le
/-- a word's own bytes, and what stands behind it -/
def rawW : List UInt8 → Option (List UInt8 × List UInt8)
  | [] => none
  | c :: t => if c = 34 then quotedK 0 t else if bareB c then some ((c :: t).takeWhile bareB, (c :: t).dropWhile bareB) else none
theorem rawW_cons (c : UInt8) (t : List UInt8) : rawW (c :: t) = if c = 34 then quotedK 0 t else if bareB c then some ((c :: t).takeWhile bareB, (c :: t).dropWhile bareB) else none := rfl
def endW (r : List UInt8) : Prop := r = [] ∨ r.head? = some 32
instance (r : List UInt8) : Decidable (endW r) := by unfold endW; infer_instance
/-- the first word of a text that begins with none of the blanks, and what stands behind it; none: it is refused -/
def wordL (r : List UInt8) : Option (List UInt8 × List UInt8) := match rawW r with
  | none => none
  | some p => if endW p.2 then some p else none
theorem rawW_len {r : List UInt8} {p : List UInt8 × List UInt8} (h : rawW r = some p) : p.2.length < r.length := by
  cases r with
  | nil => cases h
  | cons c t =>
    rw [rawW_cons] at h
    by_cases hc : c = 34
    · rw [if_pos hc] at h
      have := quotedK_len 0 h
      rw [List.length_cons]
      omega
    · rw [if_neg hc] at h
      by_cases hb : bareB c = true
      · rw [if_pos hb] at h
        cases h
        have h2 : ((c :: t).dropWhile bareB) = t.dropWhile bareB := by rw [List.dropWhile_cons_of_pos hb]
        simp only
        rw [h2]
        have := (List.dropWhile_sublist bareB (l := t)).length_le
        rw [List.length_cons]
        omega
      · rw [if_neg hb] at h
        cases h
theorem wordL_len {r : List UInt8} {p : List UInt8 × List UInt8} (h : wordL r = some p) : p.2.length < r.length := by
  unfold wordL at h
  cases hq : rawW r with
  | none => rw [hq] at h; cases h
  | some q =>
    rw [hq] at h
    simp only at h
    by_cases he : endW q.2
    · rw [if_pos he] at h
      cases h
      exact rawW_len hq
    · rw [if_neg he] at h
      cases h
def wordsF : Nat → List UInt8 → Option (List (List UInt8))
  | 0, _ => none
  | n + 1, s => if trimB s = [] then some [] else match wordL (trimB s) with
    | none => none
    | some p => (wordsF n p.2).map (p.1 :: ·)
theorem wordsF_more : ∀ (n m : Nat) (s : List UInt8), s.length < n → s.length < m → wordsF n s = wordsF m s
  | 0, _, s, h, _ => by omega
  | _, 0, s, _, h => by omega
  | n + 1, m + 1, s, h1, h2 => by
    unfold wordsF
    split
    · rfl
    · split
      · rfl
      · rename_i p hp
        have h3 := wordL_len hp
        have h4 := trimB_le s
        rw [wordsF_more n m p.2 (by omega) (by omega)]
/-- a line's words; none: it is refused -/
def wordsL (s : List UInt8) : Option (List (List UInt8)) := wordsF (s.length + 1) s
theorem wordsL_eq (s : List UInt8) : wordsL s = if trimB s = [] then some [] else match wordL (trimB s) with
    | none => none
    | some p => (wordsL p.2).map (p.1 :: ·) := by
  conv => lhs; unfold wordsL wordsF
  split
  · rfl
  · split
    · rfl
    · rename_i p hp
      have h3 := wordL_len hp
      have h4 := trimB_le s
      unfold wordsL
      rw [wordsF_more s.length (p.2.length + 1) p.2 (by omega) (by omega)]
theorem trimB_idem (s : List UInt8) : trimB (trimB s) = trimB s := by
  unfold trimB
  induction s with
  | nil => rfl
  | cons c s ih =>
    by_cases h : c = 32
    · rw [List.dropWhile_cons_of_pos (by simpa using h)]
      exact ih
    · rw [List.dropWhile_cons_of_neg (by simpa using h), List.dropWhile_cons_of_neg (by simpa using h)]
theorem wordsL_trim (s : List UInt8) : wordsL (trimB s) = wordsL s := by rw [wordsL_eq, wordsL_eq s, trimB_idem]
theorem trimB_blank (s : List UInt8) : trimB (32 :: s) = trimB s := by unfold trimB; rw [List.dropWhile_cons_of_pos (by simp)]
theorem wordsL_blank (s : List UInt8) : wordsL (32 :: s) = wordsL s := by rw [wordsL_eq, wordsL_eq s, trimB_blank]
theorem trimB_head {s : List UInt8} {c : UInt8} {t : List UInt8} (h : trimB s = c :: t) : c ≠ 32 := by
  unfold trimB at h
  have := List.head?_dropWhile_not (fun c => decide (c = 32)) s
  rw [h] at this
  simpa using this
/-! ### how a word is written -/
def quoteB (c : UInt8) : List UInt8 := if c = 34 ∨ c = 92 then [92, c] else if oddB c then [92, 117, 48, 48, hexD (c.toNat / 16), hexD (c.toNat % 16)] else [c]
def quoteL (s : List UInt8) : List UInt8 := 34 :: (s.flatMap quoteB ++ [34])
def writeW (s : List UInt8) : List UInt8 := if s ≠ [] ∧ s.all bareB = true then s else quoteL s
theorem forall_u8 {Q : UInt8 → Prop} (h : ∀ n : Fin 256, Q (UInt8.ofNat n)) (c : UInt8) : Q c := by
  have := h ⟨c.toNat, c.toNat_lt⟩
  simpa using this
theorem odd_hex (c : UInt8) : oddB c = true → hexV (hexD (c.toNat / 16)) = some (c.toNat / 16) ∧ hexV (hexD (c.toNat % 16)) = some (c.toNat % 16) ∧ UInt8.ofNat (16 * (c.toNat / 16) + c.toNat % 16) = c := by
  revert c
  exact forall_u8 (by decide +kernel)
theorem quotedK_byte (c : UInt8) (r : List UInt8) : quotedK 0 (quoteB c ++ r) = (quotedK 0 r).map fun p => (c :: p.1, p.2) := by
  unfold quoteB
  by_cases h1 : c = 34 ∨ c = 92
  · rw [if_pos h1]
    have he : escL (c :: r) = some (c, 1) := if_pos h1
    show quotedK 0 (92 :: c :: r) = _
    rw [quotedK]
    rw [if_neg (by decide), if_neg (by decide), if_pos rfl, he]
    simp only
    rw [quotedK_drop]
    rfl
  · rw [if_neg h1]
    by_cases h2 : oddB c = true
    · rw [if_pos h2]
      obtain ⟨h3, h4, h5⟩ := odd_hex c h2
      have he : escL (117 :: 48 :: 48 :: hexD (c.toNat / 16) :: hexD (c.toNat % 16) :: r) = some (c, 5) := by
        rw [escL_cons, if_neg (by decide), uniL_hex h3 h4, h5, if_pos h2]
      show quotedK 0 (92 :: 117 :: 48 :: 48 :: hexD (c.toNat / 16) :: hexD (c.toNat % 16) :: r) = _
      rw [quotedK, if_neg (by decide), if_neg (by decide), if_pos rfl, he]
      simp only
      rw [quotedK_drop]
      rfl
    · rw [if_neg h2]
      have h3 : c ≠ 34 := fun e => h1 (.inl e)
      have h4 : c ≠ 92 := fun e => h1 (.inr e)
      show quotedK 0 (c :: r) = _
      rw [quotedK, if_neg h2, if_neg h3, if_neg h4]
theorem quotedK_quote (s r : List UInt8) : quotedK 0 (s.flatMap quoteB ++ 34 :: r) = some (s, r) := by
  induction s with
  | nil =>
    show quotedK 0 (34 :: r) = _
    rw [quotedK, if_neg (by decide), if_pos rfl]
  | cons c s ih =>
    rw [List.flatMap_cons, List.append_assoc, quotedK_byte, ih]
    rfl
theorem takeWhile_all {q : UInt8 → Bool} : ∀ {s r : List UInt8}, s.all q = true → (r = [] ∨ ∃ c, r.head? = some c ∧ q c = false) → (s ++ r).takeWhile q = s ∧ (s ++ r).dropWhile q = r
  | [], r, _, h => by
    rcases h with rfl | ⟨c, hc, hq⟩
    · simp
    · cases r with
      | nil => cases hc
      | cons x r =>
        simp at hc
        subst hc
        simp [hq]
  | x :: s, r, hs, h => by
    simp only [List.all_cons, Bool.and_eq_true] at hs
    obtain ⟨h1, h2⟩ := takeWhile_all (q := q) hs.2 h
    rw [List.cons_append, List.takeWhile_cons_of_pos hs.1, List.dropWhile_cons_of_pos hs.1, h1, h2]
    exact ⟨rfl, rfl⟩
theorem bare_not_quote {c : UInt8} (h : bareB c = true) : c ≠ 34 ∧ c ≠ 32 := by
  unfold bareB at h
  simp only [Bool.and_eq_true, decide_eq_true_eq] at h
  exact ⟨h.1.2, fun e => by rw [e] at h; exact absurd h.1.1.1 (by decide)⟩
/-- a word as it is written is read as that word -/
theorem wordL_of {r : List UInt8} {p : List UInt8 × List UInt8} (h : rawW r = some p) (he : endW p.2) : wordL r = some p := by
  unfold wordL
  rw [h]
  exact if_pos he
theorem rawW_quote (s r : List UInt8) : rawW (quoteL s ++ r) = some (s, r) := by
  unfold quoteL
  rw [List.cons_append, List.append_assoc]
  rw [rawW_cons, if_pos rfl]
  exact quotedK_quote s r
theorem wordL_quote (s r : List UInt8) (hr : endW r) : wordL (quoteL s ++ r) = some (s, r) := wordL_of (rawW_quote s r) hr
theorem rawW_bare {c : UInt8} {s r : List UInt8} (h : (c :: s).all bareB = true) (hr : endW r) : rawW (c :: s ++ r) = some (c :: s, r) := by
  have hc : bareB c = true := by simp only [List.all_cons, Bool.and_eq_true] at h; exact h.1
  have h3 := bare_not_quote hc
  obtain ⟨h4, h5⟩ := takeWhile_all (r := r) h (by
    rcases hr with h | h
    · exact .inl h
    · exact .inr ⟨32, h, by decide⟩)
  rw [List.cons_append] at h4 h5 ⊢
  rw [rawW_cons, if_neg h3.1, if_pos hc, h4, h5]
theorem wordL_write (s r : List UInt8) (hr : endW r) : wordL (writeW s ++ r) = some (s, r) := by
  unfold writeW
  split
  · rename_i h
    obtain ⟨h1, h2⟩ := h
    cases s with
    | nil => exact absurd rfl h1
    | cons c s => exact wordL_of (rawW_bare h2 hr) hr
  · exact wordL_quote s r hr
theorem writeW_head (s : List UInt8) : ∃ c t, writeW s = c :: t ∧ c ≠ 32 := by
  unfold writeW
  split
  · rename_i h
    cases s with
    | nil => exact absurd rfl h.1
    | cons c s =>
      have h2 := h.2
      simp only [List.all_cons, Bool.and_eq_true] at h2
      exact ⟨c, s, rfl, (bare_not_quote h2.1).2⟩
  · exact ⟨34, _, rfl, by decide⟩
/-- words written with one blank between -/
def lineL : List (List UInt8) → List UInt8
  | [] => []
  | [x] => writeW x
  | x :: y :: r => writeW x ++ 32 :: lineL (y :: r)
theorem trimB_no {s : List UInt8} (h : ∃ c t, s = c :: t ∧ c ≠ 32) : trimB s = s := by
  obtain ⟨c, t, rfl, hc⟩ := h
  unfold trimB
  rw [List.dropWhile_cons_of_neg (by simpa using hc)]
theorem wordsL_nil : wordsL [] = some [] := rfl
theorem wordsL_line : ∀ l : List (List UInt8), wordsL (lineL l) = some l
  | [] => rfl
  | [x] => by
    obtain ⟨c, t, h1, h2⟩ := writeW_head x
    have h3 := wordL_write x [] (.inl rfl)
    rw [List.append_nil] at h3
    rw [lineL, wordsL_eq, trimB_no ⟨c, t, h1, h2⟩, if_neg (by rw [h1]; simp), h3]
    simp only
    rw [wordsL_nil]
    rfl
  | x :: y :: r => by
    have ih := wordsL_line (y :: r)
    obtain ⟨c, t, h1, h2⟩ := writeW_head x
    have h3 := wordL_write x (32 :: lineL (y :: r)) (.inr rfl)
    rw [lineL, wordsL_eq, trimB_no ⟨c, t ++ 32 :: lineL (y :: r), by rw [h1]; rfl, h2⟩, if_neg (by rw [h1]; simp), h3]
    simp only
    rw [wordsL_blank, ih]
    rfl
end Go.Proofs.YtlljjddgbilipaaGreatDoor
