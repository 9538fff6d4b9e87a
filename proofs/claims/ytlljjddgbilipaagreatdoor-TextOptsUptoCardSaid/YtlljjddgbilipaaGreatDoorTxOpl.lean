/-
  Plain: the options of a line, as both sides read and write them.
-/
import Derived.Test.YtlljjddgbilipaaGreatDoorTxTkp
namespace Go.Proofs.YtlljjddgbilipaaGreatDoor
open Go.RowKit

def storyW : List UInt8 := [115, 116, 111, 114, 121]
structure OptD where
  quota : Int
  workers : Int
  tries : Int
  patience : Int
  budget : Int
  offline : Bool
  bypass : List UInt8
  name : List UInt8
  secret : List UInt8
  tags : List (List UInt8)
  sizes : List Int
def zOpt : OptD := ⟨0, 0, 0, 0, 0, false, [], [], [], [], []⟩
def numsP : List (List UInt8) → Option (List Int)
  | [] => some []
  | x :: r => match numP x, numsP r with
    | some n, some l => some (n :: l)
    | _, _ => none
/-- as text.ParseOpts reads the words -/
def parseOW : List (List UInt8) → OptD × Int
  | w :: a1 :: a2 :: a3 :: a4 :: a5 :: a6 :: b :: n :: s :: k :: r =>
    if w ≠ storyW then (zOpt, 7) else match numP k with
    | none => (zOpt, 6)
    | some t => if (r.length : Int) < t then (zOpt, 14) else if t < 0 ∨ (a6 ≠ [48] ∧ a6 ≠ [49]) then (zOpt, 6) else
      match numP a1, numP a2, numP a3, numP a4, numP a5, numsP (r.drop t.toNat) with
      | some q1, some q2, some q3, some q4, some q5, some z => (⟨q1, q2, q3, q4, q5, decide (a6 = [49]), b, n, s, r.take t.toNat, z⟩, 0)
      | _, _, _, _, _, _ => (zOpt, 6)
  | l => if l.head? = some storyW then (zOpt, 14) else (zOpt, 7)
/-- as mewsref23.ParseOpts reads the words -/
def rparseOW : List (List UInt8) → OptD × Int
  | w :: a1 :: a2 :: a3 :: a4 :: a5 :: a6 :: b :: n :: s :: k :: r =>
    if w ≠ storyW then (zOpt, 7) else if (∃ t, numP k = some t ∧ (r.length : Int) < t) then (zOpt, 14) else
      match numP a1, numP a2, numP a3, numP a4, numP a5, numP a6, numP k with
      | some q1, some q2, some q3, some q4, some q5, some q6, some t => if q6 < 0 ∨ 1 < q6 ∨ t < 0 then (zOpt, 6) else match numsP (r.drop t.toNat) with
        | some z => (⟨q1, q2, q3, q4, q5, decide (q6 = 1), b, n, s, r.take t.toNat, z⟩, 0)
        | none => (zOpt, 6)
      | _, _, _, _, _, _, _ => (zOpt, 6)
  | l => if l.head? = some storyW then (zOpt, 14) else (zOpt, 7)
theorem itoa01 : Lib.itoa 0 = [48] ∧ Lib.itoa 1 = [49] := ⟨by kernel_rfl, by kernel_rfl⟩
theorem num01 {a : List UInt8} {q : Int} (h : numP a = some q) : (a ≠ [48] ∧ a ≠ [49]) ↔ (q < 0 ∨ 1 < q) := by
  obtain ⟨h1, h2, h3⟩ := numP_iff.1 h
  have e0 : numP [48] = some 0 := numP_iff.2 ⟨itoa01.1, by decide, by decide⟩
  have e1 : numP [49] = some 1 := numP_iff.2 ⟨itoa01.2, by decide, by decide⟩
  constructor
  · rintro ⟨n0, n1⟩
    by_cases c0 : q = 0
    · subst c0; exact absurd (h1.symm.trans itoa01.1) n0
    by_cases c1 : q = 1
    · subst c1; exact absurd (h1.symm.trans itoa01.2) n1
    omega
  · intro hq
    refine ⟨fun e => ?_, fun e => ?_⟩
    · subst e; rw [e0] at h; injection h; omega
    · subst e; rw [e1] at h; injection h; omega
theorem num1 {a : List UInt8} {q : Int} (h : numP a = some q) : decide (a = [49]) = decide (q = 1) := by
  have e1 : numP [49] = some 1 := numP_iff.2 ⟨itoa01.2, by decide, by decide⟩
  obtain ⟨h1, _, _⟩ := numP_iff.1 h
  by_cases c : q = 1
  · subst c; rw [decide_eq_true rfl, decide_eq_true (h1.symm.trans itoa01.2)]
  · rw [decide_eq_false c, decide_eq_false (fun e => c (by subst e; rw [e1] at h; injection h with h; exact h.symm))]
theorem num_none {a : List UInt8} (h : numP a = none) : a ≠ [48] ∧ a ≠ [49] := by
  have e0 : numP [48] = some 0 := numP_iff.2 ⟨itoa01.1, by decide, by decide⟩
  have e1 : numP [49] = some 1 := numP_iff.2 ⟨itoa01.2, by decide, by decide⟩
  refine ⟨fun e => ?_, fun e => ?_⟩
  · subst e; rw [e0] at h; cases h
  · subst e; rw [e1] at h; cases h
theorem rparseO_eq (l : List (List UInt8)) : rparseOW l = parseOW l := by
  unfold rparseOW parseOW
  split
  · rename_i w a1 a2 a3 a4 a5 a6 b n s k r
    by_cases hw : w = storyW
    · rw [if_neg (not_not_intro hw), if_neg (not_not_intro hw)]
      rcases hk : numP k with _ | t
      · rw [if_neg (by simp)]
        cases numP a1 <;> cases numP a2 <;> cases numP a3 <;> cases numP a4 <;> cases numP a5 <;> cases numP a6 <;> rfl
      · simp only [Option.some.injEq, exists_eq_left']
        by_cases hr : (r.length : Int) < t
        · rw [if_pos hr, if_pos hr]
        · rw [if_neg hr, if_neg hr]
          rcases h6 : numP a6 with _ | q6
          · rw [if_pos (.inr (num_none h6))]
            cases numP a1 <;> cases numP a2 <;> cases numP a3 <;> cases numP a4 <;> cases numP a5 <;> rfl
          · have h01 := num01 h6
            have h1 := num1 h6
            rcases numP a1 with _ | q1
            · cases numP a2 <;> cases numP a3 <;> cases numP a4 <;> cases numP a5 <;> (show (zOpt, (6 : Int)) = _; split <;> rfl)
            rcases numP a2 with _ | q2
            · cases numP a3 <;> cases numP a4 <;> cases numP a5 <;> (show (zOpt, (6 : Int)) = _; split <;> rfl)
            rcases numP a3 with _ | q3
            · cases numP a4 <;> cases numP a5 <;> (show (zOpt, (6 : Int)) = _; split <;> rfl)
            rcases numP a4 with _ | q4
            · cases numP a5 <;> (show (zOpt, (6 : Int)) = _; split <;> rfl)
            rcases numP a5 with _ | q5
            · (show (zOpt, (6 : Int)) = _; split <;> rfl)
            simp only
            by_cases c : q6 < 0 ∨ 1 < q6 ∨ t < 0
            · rw [if_pos c, if_pos]
              rcases c with c | c | c
              · exact .inr (h01.2 (.inl c))
              · exact .inr (h01.2 (.inr c))
              · exact .inl c
            · rw [if_neg c, if_neg, h1]
              · rcases numsP (r.drop t.toNat) with _ | z <;> rfl
              · rintro (c2 | c2)
                · exact c (.inr (.inr c2))
                · rcases h01.1 c2 with c3 | c3
                  · exact c (.inl c3)
                  · exact c (.inr (.inl c3))
    · rw [if_pos hw, if_pos hw]
  · rfl
/-- the words of options -/
def optWords (o : OptD) : List (List UInt8) := storyW :: Lib.itoa o.quota :: Lib.itoa o.workers :: Lib.itoa o.tries :: Lib.itoa o.patience :: Lib.itoa o.budget :: (if o.offline = true then [49] else [48]) :: o.bypass :: o.name :: o.secret :: Lib.itoa o.tags.length :: (o.tags ++ o.sizes.map Lib.itoa)
def optOk (o : OptD) : Bool := inN o.quota && inN o.workers && inN o.tries && inN o.patience && inN o.budget && o.sizes.all inN
def formatO (o : OptD) : List UInt8 × Int := if optOk o = true then limP ((optWords o).map writeW) else ([], 6)
theorem numsP_itoa : ∀ {l : List Int}, l.all inN = true → numsP (l.map Lib.itoa) = some l
  | [], _ => rfl
  | x :: r, h => by
    rw [List.all_cons, Bool.and_eq_true] at h
    rw [List.map_cons, numsP, numP_itoa h.1, numsP_itoa h.2]
theorem parseO_words {o : OptD} (h : optOk o = true) (ht : o.tags.length ≤ 4611686018427387904) : parseOW (optWords o) = (o, 0) := by
  obtain ⟨q1, q2, q3, q4, q5, off, b, n, s, tags, sizes⟩ := o
  unfold optOk at h
  simp only [Bool.and_eq_true] at h ht
  obtain ⟨⟨⟨⟨⟨h1, h2⟩, h3⟩, h4⟩, h5⟩, h6⟩ := h
  have hk : numP (Lib.itoa tags.length) = some (tags.length : Int) := numP_itoa (by unfold inN; exact decide_eq_true ⟨by omega, by omega⟩)
  unfold optWords parseOW
  simp only
  rw [if_neg (by simp), hk, numP_itoa h1, numP_itoa h2, numP_itoa h3, numP_itoa h4, numP_itoa h5]
  simp only
  rw [if_neg (by rw [List.length_append]; omega), if_neg (by cases off <;> simp <;> omega)]
  rw [Int.toNat_natCast, List.drop_left, numsP_itoa h6, List.take_left]
  cases off <;> simp
theorem formatO_back {o : OptD} {t : List UInt8} (h : formatO o = (t, 0)) (ht : o.tags.length ≤ 4611686018427387904) : wordsErr t = 0 ∧ parseOW (wordsOf t) = (o, 0) := by
  unfold formatO at h
  split at h
  · rename_i hok
    unfold limP at h
    split at h
    · simp at h
    · rename_i hl
      injection h with h1 _
      subst h1
      obtain ⟨w1, w2⟩ := words_good hl (by rw [joinB_line]; exact wordsL_line _)
      exact ⟨w1, by rw [w2]; exact parseO_words hok ht⟩
  · simp at h
end Go.Proofs.YtlljjddgbilipaaGreatDoor
