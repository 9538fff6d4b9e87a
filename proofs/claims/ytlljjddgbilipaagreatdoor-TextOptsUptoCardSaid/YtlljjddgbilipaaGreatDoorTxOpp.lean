/-
  Plain: what a line's words say as options, piece by piece.
-/
import Derived.Test.YtlljjddgbilipaaGreatDoorTxOpm
import Derived.Test.YtlljjddgbilipaaGreatDoorTxDat
namespace Go.Proofs.YtlljjddgbilipaaGreatDoor
open Go.RowKit Go.Maps

def parseOL (s : List UInt8) : OptD × Int := if wordsErr s ≠ 0 then (zOpt, wordsErr s) else parseOW (wordsOf s)
theorem parseOL_err {s : List UInt8} (h : wordsErr s ≠ 0) : parseOL s = (zOpt, wordsErr s) := by unfold parseOL; rw [if_pos h]
theorem parseOL_ok {s : List UInt8} (h : wordsErr s = 0) : parseOL s = parseOW (wordsOf s) := by unfold parseOL; rw [if_neg (by rw [h]; decide)]
theorem parseOW_head {l : List (List UInt8)} (h : l.head? ≠ some storyW) : parseOW l = (zOpt, 7) := by
  unfold parseOW
  split
  · rename_i hw
    rw [if_pos (fun e => h (by rw [e]; rfl))]
  · rw [if_neg h]
theorem parseOW_short {l : List (List UInt8)} (h : l.head? = some storyW) (hl : l.length < 11) : parseOW l = (zOpt, 14) := by
  unfold parseOW
  split
  · simp only [List.length_cons] at hl
    omega
  · rw [if_pos h]
/-- the part behind the words' number -/
def tailOW (a1 a2 a3 a4 a5 a6 b n s k : List UInt8) (r : List (List UInt8)) : OptD × Int := match numP k with
    | none => (zOpt, 6)
    | some t => if (r.length : Int) < t then (zOpt, 14) else if t < 0 ∨ (a6 ≠ [48] ∧ a6 ≠ [49]) then (zOpt, 6) else
      match numP a1, numP a2, numP a3, numP a4, numP a5, numsP (r.drop t.toNat) with
      | some q1, some q2, some q3, some q4, some q5, some z => (⟨q1, q2, q3, q4, q5, decide (a6 = [49]), b, n, s, r.take t.toNat, z⟩, 0)
      | _, _, _, _, _, _ => (zOpt, 6)
theorem parseOW_tail (a1 a2 a3 a4 a5 a6 b n s k : List UInt8) (r : List (List UInt8)) : parseOW (storyW :: a1 :: a2 :: a3 :: a4 :: a5 :: a6 :: b :: n :: s :: k :: r) = tailOW a1 a2 a3 a4 a5 a6 b n s k r := by
  unfold parseOW tailOW
  simp only [ne_eq, not_true_eq_false, if_false]
  rfl
theorem numsP_snoc : ∀ (l : List (List UInt8)) (x : List UInt8), numsP (l ++ [x]) = match numsP l, numP x with
    | some a, some n => some (a ++ [n])
    | _, _ => none
  | [], x => by
    rw [List.nil_append, numsP, numsP, numsP]
    cases numP x <;> rfl
  | y :: r, x => by
    rw [List.cons_append, numsP, numsP_snoc r x, numsP]
    cases numP y <;> cases numsP r <;> cases numP x <;> rfl
theorem tail_none {a1 a2 a3 a4 a5 a6 b n s k : List UInt8} {r : List (List UInt8)} (h : numP k = none) : tailOW a1 a2 a3 a4 a5 a6 b n s k r = (zOpt, 6) := by
  unfold tailOW; rw [h]
theorem tail_many {a1 a2 a3 a4 a5 a6 b n s k : List UInt8} {r : List (List UInt8)} {t : Int} (h : numP k = some t) (ht : (r.length : Int) < t) : tailOW a1 a2 a3 a4 a5 a6 b n s k r = (zOpt, 14) := by
  unfold tailOW; rw [h]; simp only; rw [if_pos ht]
theorem tail_range {a1 a2 a3 a4 a5 a6 b n s k : List UInt8} {r : List (List UInt8)} {t : Int} (h : numP k = some t) (ht : ¬ (r.length : Int) < t) (h2 : t < 0 ∨ (a6 ≠ [48] ∧ a6 ≠ [49])) : tailOW a1 a2 a3 a4 a5 a6 b n s k r = (zOpt, 6) := by
  unfold tailOW; rw [h]; simp only; rw [if_neg ht, if_pos h2]
theorem no6 {t : Nat} {a6 : List UInt8} (h2 : a6 = [48] ∨ a6 = [49]) : ¬ ((t : Int) < 0 ∨ (a6 ≠ [48] ∧ a6 ≠ [49])) := by
  rintro (h | h)
  · omega
  · rcases h2 with e | e
    · exact h.1 e
    · exact h.2 e
/-- the five numbers' places -/
def nth5 (a1 a2 a3 a4 a5 : List UInt8) : Nat → List UInt8
  | 0 => a1
  | 1 => a2
  | 2 => a3
  | 3 => a4
  | _ => a5
theorem tail_bad {a1 a2 a3 a4 a5 a6 b n s k : List UInt8} {r : List (List UInt8)} {t : Nat} (h : numP k = some (t : Int)) (ht : t ≤ r.length) (h2 : a6 = [48] ∨ a6 = [49]) (hb : (∃ i, i < 5 ∧ numP (nth5 a1 a2 a3 a4 a5 i) = none) ∨ numsP (r.drop t) = none) : tailOW a1 a2 a3 a4 a5 a6 b n s k r = (zOpt, 6) := by
  unfold tailOW
  rw [h]
  simp only
  rw [if_neg (by omega), if_neg (no6 h2), Int.toNat_natCast]
  rcases hb with ⟨i, hi, hb⟩ | hb
  · rcases i with _ | _ | _ | _ | _ | i
    · simp only [nth5] at hb; rw [hb]
    · simp only [nth5] at hb; rw [hb]; cases numP a1 <;> rfl
    · simp only [nth5] at hb; rw [hb]; cases numP a1 <;> cases numP a2 <;> rfl
    · simp only [nth5] at hb; rw [hb]; cases numP a1 <;> cases numP a2 <;> cases numP a3 <;> rfl
    · simp only [nth5] at hb; rw [hb]; cases numP a1 <;> cases numP a2 <;> cases numP a3 <;> cases numP a4 <;> rfl
    · omega
  · rw [hb]
    cases numP a1 <;> cases numP a2 <;> cases numP a3 <;> cases numP a4 <;> cases numP a5 <;> rfl
theorem tail_good {a1 a2 a3 a4 a5 a6 b n s k : List UInt8} {r : List (List UInt8)} {t : Nat} {x : Nat → Int} {z : List Int} (h : numP k = some (t : Int)) (ht : t ≤ r.length) (h2 : a6 = [48] ∨ a6 = [49]) (hx : ∀ i, i < 5 → numP (nth5 a1 a2 a3 a4 a5 i) = some (x i)) (hz : numsP (r.drop t) = some z) :
    tailOW a1 a2 a3 a4 a5 a6 b n s k r = (⟨x 0, x 1, x 2, x 3, x 4, decide (a6 = [49]), b, n, s, r.take t, z⟩, 0) := by
  unfold tailOW
  rw [h]
  simp only
  rw [if_neg (by omega), if_neg (no6 h2), Int.toNat_natCast, hz]
  have h0 := hx 0 (by omega)
  have h1 := hx 1 (by omega)
  have h2' := hx 2 (by omega)
  have h3 := hx 3 (by omega)
  have h4 := hx 4 (by omega)
  simp only [nth5] at h0 h1 h2' h3 h4
  rw [h0, h1, h2', h3, h4]
/-- a row of options, as the first loop leaves it -/
def rowN (x : Nat → Int) (sv : Value) : List Value := opV (x 0) sv (x 1) (x 2) (x 3) (x 4) (.slice none 0 0) ⟨#[]⟩ false ⟨#[]⟩ ⟨#[]⟩ ⟨#[]⟩ (.slice none 0 0)
def offN5 : Nat → Nat
  | 0 => 0
  | 1 => 2
  | 2 => 3
  | 3 => 4
  | _ => 5
def updN (x : Nat → Int) (j : Nat) (n : Int) : Nat → Int := fun i => if i = j then n else x i
theorem rowN_set (x : Nat → Int) (sv : Value) {j : Nat} (hj : j < 5) (n : Int) : (rowN x sv).toArray.setIfInBounds (offN5 j) (.int .i64 n) = (rowN (updN x j n) sv).toArray := by
  rcases j with _ | _ | _ | _ | _ | j
  · rfl
  · rfl
  · rfl
  · rfl
  · rfl
  · omega
theorem rowN_at (x : Nat → Int) (sv : Value) {j : Nat} (hj : j < 5) : (rowN x sv).toArray[offN5 j]? = some (.int .i64 (x j)) := by
  rcases j with _ | _ | _ | _ | _ | j
  · rfl
  · rfl
  · rfl
  · rfl
  · rfl
  · omega
theorem numPtrs_at (b : Nat) {j : Nat} (hj : j < 5) : (numPtrs b).toArray[j]? = some (.pointer (some ⟨b, offN5 j, none⟩)) := by
  rcases j with _ | _ | _ | _ | _ | j
  · rfl
  · rfl
  · rfl
  · rfl
  · rfl
  · omega
theorem rowN_sv (x : Nat → Int) (sv v : Value) : (rowN x sv).toArray.setIfInBounds 1 v = (rowN x v).toArray := rfl
/-- what the first loop knows -/
def Know (a : Nat → List UInt8) (j : Nat) (ok : Bool) (x : Nat → Int) : Prop := (ok = true → ∀ i, i < j → numP (a i) = some (x i)) ∧ (ok = false → ∃ i, i < j ∧ numP (a i) = none)
theorem Know.next {a : Nat → List UInt8} {j : Nat} {ok : Bool} {x : Nat → Int} (h : Know a j ok x) {n : Int} {is : Bool} (hn : numP (a j) = if is = true then some n else none) : Know a (j + 1) (ok && is) (updN x j n) := by
  constructor
  · intro hk i hi
    rw [Bool.and_eq_true] at hk
    unfold updN
    by_cases hij : i = j
    · rw [if_pos hij, hij, hn, if_pos hk.2]
    · rw [if_neg hij]
      exact h.1 hk.1 i (by omega)
  · intro hk
    rcases ok with _ | _
    · obtain ⟨i, hi, h1⟩ := h.2 rfl
      exact ⟨i, by omega, h1⟩
    · rw [Bool.true_and] at hk
      exact ⟨j, by omega, by rw [hn, if_neg (by rw [hk]; decide)]⟩
/-- what the second loop knows -/
def Know2 (l : List (List UInt8)) (j : Nat) (ok0 ok : Bool) (z : List Int) : Prop := z.length = j ∧ (ok = true → ok0 = true ∧ numsP (l.take j) = some z) ∧ (ok = false → ok0 = false ∨ numsP (l.take j) = none)
theorem numsP_take_none {l : List (List UInt8)} {j : Nat} (h : numsP (l.take j) = none) : numsP l = none := by
  have e : l = l.take j ++ l.drop j := (List.take_append_drop j l).symm
  rw [e]
  generalize l.take j = a at h
  generalize l.drop j = c
  induction a with
  | nil => simp [numsP] at h
  | cons y r ih =>
    rw [List.cons_append, numsP]
    rw [numsP] at h
    cases hy : numP y with
    | none => rfl
    | some q =>
      rw [hy] at h
      cases hr : numsP r with
      | none => rw [ih hr]
      | some z => rw [hr] at h; simp at h
theorem Know2.next {l : List (List UInt8)} {j : Nat} {ok0 ok : Bool} {z : List Int} (h : Know2 l j ok0 ok z) {x : List UInt8} (hx : l[j]? = some x) {n : Int} {is : Bool} (hn : numP x = if is = true then some n else none) : Know2 l (j + 1) ok0 (ok && is) (z ++ [n]) := by
  refine ⟨by rw [List.length_append, h.1]; rfl, fun hk => ?_, fun hk => ?_⟩
  · rw [Bool.and_eq_true] at hk
    obtain ⟨h1, h2⟩ := h.2.1 hk.1
    refine ⟨h1, ?_⟩
    rw [take_snoc hx, numsP_snoc, h2, hn, if_pos hk.2]
  · rw [take_snoc hx, numsP_snoc]
    rcases ok with _ | _
    · rcases h.2.2 rfl with h1 | h1
      · exact .inl h1
      · rw [h1]; exact .inr rfl
    · rw [Bool.true_and] at hk
      obtain ⟨h1, h2⟩ := h.2.1 rfl
      rw [h2, hn, if_neg (by rw [hk]; decide)]
      exact .inr rfl
end Go.Proofs.YtlljjddgbilipaaGreatDoor
