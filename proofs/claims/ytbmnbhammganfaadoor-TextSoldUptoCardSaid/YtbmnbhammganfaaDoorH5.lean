/-
  Plain: the line of an act is read as that act; a line that is read as an act is that act's line, but for blanks and quotes.
  Plain, as TextBack asks it.
  mewsref23.Line.
  The reference's forms, kinds; Cut.
  Plain: an act of a line, as the reference reads it.
-/
import Derived.Test.YtbmnbhammganfaaDoorTxFa
import Derived.Test.YtbmnbhammganfaaDoorH4
import Derived.Test.YtbmnbhammganfaaDoorTxWr
namespace Go.Proofs.YtbmnbhammganfaaDoor
open Go.RowKit

set_option linter.unusedSimpArgs false

theorem findA_some : ∀ {l : List Form} {a : ActD} {f : Form}, findA l a = some f → f ∈ l ∧ matchA f a = true
  | [], _, _, h => by cases h
  | g :: r, a, f, h => by
    rw [findA] at h
    by_cases hm : matchA g a = true
    · rw [if_pos hm] at h
      cases h
      exact ⟨by simp, hm⟩
    · rw [if_neg hm] at h
      have := findA_some h
      exact ⟨by simp [this.1], this.2⟩
theorem findL_some : ∀ {l : List Form} {x : List (List UInt8)} {f : Form} {k : Nat}, findL l x = some (f, k) → f ∈ l ∧ matchF f x = some k
  | [], _, _, _, h => by cases h
  | g :: r, x, f, k, h => by
    rw [findL] at h
    cases hm : matchF g x with
    | some j =>
      rw [hm] at h
      cases h
      exact ⟨by simp, hm⟩
    | none =>
      rw [hm] at h
      have := findL_some h
      exact ⟨by simp [this.1], this.2⟩
theorem joinB_line : ∀ l : List (List UInt8), joinB (l.map writeW) = lineL l
  | [] => rfl
  | [x] => rfl
  | x :: y :: r => by
    have ih := joinB_line (y :: r)
    rw [List.map_cons, List.map_cons, joinB, lineL, ← List.map_cons, ih]
/-- the line of written words is read as these words -/
theorem parse_line {l : List (List UInt8)} {t : List UInt8} (h : limP (l.map writeW) = (t, 0)) : parseA t = parseW l := by
  unfold limP at h
  by_cases hl : 65536 < (joinB (l.map writeW)).length
  · rw [if_pos hl] at h
    cases h
  · rw [if_neg hl] at h
    have ht : t = joinB (l.map writeW) := (congrArg Prod.fst h).symm
    subst ht
    have hw := words_good hl (by rw [joinB_line]; exact wordsL_line l)
    unfold parseA
    rw [hw.1, hw.2, if_neg (by decide)]
theorem write_bare {x : List UInt8} (h : x ≠ []) (hb : x.all bareB = true) : writeW x = x := by unfold writeW; rw [if_pos ⟨h, hb⟩]
theorem numP_itoa {n : Int} (h : inN n = true) : numP (Lib.itoa n) = some n := numP_iff.2 ⟨rfl, of_decide_eq_true h⟩
theorem kind_word {k : Int} (h : kindW k ≠ []) : newK 0 (kindW k) = k ∧ k ≠ 0 ∧ writeW (kindW k) = kindW k := by
  unfold kindW at h ⊢
  cases hf : KT.find? (fun p => decide (p.1 = k)) with
  | none => rw [hf] at h; exact absurd rfl h
  | some p =>
    have h1 := List.mem_of_find?_eq_some hf
    have h2 : p.1 = k := by have := List.find?_some hf; simpa using this
    subst h2
    have hall : ∀ q ∈ KT, newK 0 q.2 = q.1 ∧ q.1 ≠ 0 ∧ writeW q.2 = q.2 := by decide +kernel
    exact hall p h1
theorem word_kind {x : List UInt8} (h : newK 0 x ≠ 0) : kindW (newK 0 x) = x ∧ kindW (newK 0 x) ≠ [] := by
  unfold newK at h ⊢
  cases hf : KT.find? (fun p => decide (p.2 = x)) with
  | none => rw [hf] at h; exact absurd rfl h
  | some p =>
    have h1 := List.mem_of_find?_eq_some hf
    have h2 : p.2 = x := by have := List.find?_some hf; simpa using this
    subst h2
    have hall : ∀ q ∈ KT, kindW q.1 = q.2 ∧ kindW q.1 ≠ [] := by decide +kernel
    exact hall p h1
theorem dec_bare (u : Nat) : Lib.decDigits u ≠ [] ∧ (Lib.decDigits u).all bareB = true := by
  obtain ⟨k1, k2, k3, k4⟩ := dec_all u
  have hd : ∀ c : UInt8, 48 ≤ c.toNat → c.toNat ≤ 57 → bareB c = true := by
    refine forall_u8 ?_
    decide +kernel
  exact ⟨k3, List.all_eq_true.2 fun c hc => by
    have := List.all_eq_true.1 k1 c hc
    simp only [isD, decide_eq_true_eq, Bool.and_eq_true] at this
    exact hd c (by omega) (by omega)⟩
theorem itoa_bare (n : Int) : writeW (Lib.itoa n) = Lib.itoa n := by
  by_cases hn : 0 ≤ n
  · rw [itoa_pos hn]
    exact write_bare (dec_bare _).1 (dec_bare _).2
  · rw [itoa_minus (by omega)]
    refine write_bare (by simp) ?_
    rw [List.all_cons, (dec_bare _).2]
    decide
theorem wl0 : writeW [114, 117, 110] = [114, 117, 110] := by decide
theorem wl1 : writeW [103, 101, 116] = [103, 101, 116] := by decide
theorem wl2 : writeW [116, 105, 100, 121] = [116, 105, 100, 121] := by decide
theorem wl3 : writeW [117, 112, 103, 114, 97, 100, 101] = [117, 112, 103, 114, 97, 100, 101] := by decide
theorem wl4 : writeW [100, 111, 119, 110, 103, 114, 97, 100, 101] = [100, 111, 119, 110, 103, 114, 97, 100, 101] := by decide
theorem wl5 : writeW [118, 101, 110, 100, 111, 114] = [118, 101, 110, 100, 111, 114] := by decide
theorem wl6 : writeW [118, 101, 114, 105, 102, 121] = [118, 101, 114, 105, 102, 121] := by decide
theorem wl7 : writeW [111, 112, 101, 110] = [111, 112, 101, 110] := by decide
theorem wl8 : writeW [99, 114, 97, 115, 104] = [99, 114, 97, 115, 104] := by decide
theorem wl9 : writeW [97, 114, 109] = [97, 114, 109] := by decide
theorem wl10 : writeW [119, 114, 105, 116, 101] = [119, 114, 105, 116, 101] := by decide
theorem wl11 : writeW [100, 114, 111, 112] = [100, 114, 111, 112] := by decide
theorem wl12 : writeW [102, 97, 117, 108, 116] = [102, 97, 117, 108, 116] := by decide
theorem wl13 : writeW [112, 97, 103, 101] = [112, 97, 103, 101] := by decide
theorem wl14 : writeW [111, 102, 102, 108, 105, 110, 101] = [111, 102, 102, 108, 105, 110, 101] := by decide
theorem wl15 : writeW [119, 111, 114, 107, 101, 114, 115] = [119, 111, 114, 107, 101, 114, 115] := by decide
/-- an act and its line's words, form by form -/
theorem back1 {a : ActD} {t : List UInt8} (h : formatA a = (t, 0)) : parseA t = (a, 0) := by
  unfold formatA at h
  cases hf : findA FORMS a with
  | none => rw [hf] at h; cases h
  | some f =>
    rw [hf] at h
    obtain ⟨hm, hk⟩ := findA_some hf
    simp only at h
    clear hf
    unfold formatF at h
    split at h
    · cases h
    rename_i h8
    split at h
    · cases h
    rename_i hz
    split at h
    · cases h
    rename_i ho
    rw [Bool.not_eq_false] at hz ho
    obtain ⟨kind, ck, path, ver, name, data, n, m, url, att, fk, fn, fdata⟩ := a
    simp only [FORMS, List.mem_cons, List.not_mem_nil, or_false] at hm
    rcases hm with rfl | rfl | rfl | rfl | rfl | rfl | rfl | rfl | rfl | rfl | rfl | rfl | rfl | rfl | rfl
    all_goals simp [matchA, less, seconds, saidF, saidStep, tOff, bOff, nOff, getT, getB, getN, setT, setB, setN, zeroA] at hk hz ho h h8
    · obtain ⟨rfl, rfl⟩ := hk
      rw [parse_line (l := [[114, 117, 110], [103, 101, 116], path, ver]) (t := t) (by rw [← h]; simp only [List.map_cons, List.map_nil, itoa_bare, wl0, wl1, wl2, wl3, wl4, wl5, wl6, wl7, wl8, wl9, wl10, wl11, wl12, wl13, wl14, wl15])]
      simp [parseW, findL, FORMS, matchF, parseF, stepF, initA, zAct, tOff, bOff, nOff, setT, setB, setN]
      simp [hz]
    · obtain ⟨rfl, rfl⟩ := hk
      rw [parse_line (l := [[114, 117, 110], [116, 105, 100, 121]]) (t := t) (by rw [← h]; simp only [List.map_cons, List.map_nil, itoa_bare, wl0, wl1, wl2, wl3, wl4, wl5, wl6, wl7, wl8, wl9, wl10, wl11, wl12, wl13, wl14, wl15])]
      simp [parseW, findL, FORMS, matchF, parseF, stepF, initA, zAct, tOff, bOff, nOff, setT, setB, setN]
      simp [hz]
    · obtain ⟨rfl, rfl⟩ := hk
      rw [parse_line (l := [[114, 117, 110], [117, 112, 103, 114, 97, 100, 101]]) (t := t) (by rw [← h]; simp only [List.map_cons, List.map_nil, itoa_bare, wl0, wl1, wl2, wl3, wl4, wl5, wl6, wl7, wl8, wl9, wl10, wl11, wl12, wl13, wl14, wl15])]
      simp [parseW, findL, FORMS, matchF, parseF, stepF, initA, zAct, tOff, bOff, nOff, setT, setB, setN]
      simp [hz]
    · obtain ⟨rfl, rfl⟩ := hk
      rw [parse_line (l := [[114, 117, 110], [100, 111, 119, 110, 103, 114, 97, 100, 101], path, ver]) (t := t) (by rw [← h]; simp only [List.map_cons, List.map_nil, itoa_bare, wl0, wl1, wl2, wl3, wl4, wl5, wl6, wl7, wl8, wl9, wl10, wl11, wl12, wl13, wl14, wl15])]
      simp [parseW, findL, FORMS, matchF, parseF, stepF, initA, zAct, tOff, bOff, nOff, setT, setB, setN]
      simp [hz]
    · obtain ⟨rfl, rfl⟩ := hk
      rw [parse_line (l := [[114, 117, 110], [118, 101, 110, 100, 111, 114]]) (t := t) (by rw [← h]; simp only [List.map_cons, List.map_nil, itoa_bare, wl0, wl1, wl2, wl3, wl4, wl5, wl6, wl7, wl8, wl9, wl10, wl11, wl12, wl13, wl14, wl15])]
      simp [parseW, findL, FORMS, matchF, parseF, stepF, initA, zAct, tOff, bOff, nOff, setT, setB, setN]
      simp [hz]
    · obtain rfl := hk
      rw [parse_line (l := [[118, 101, 114, 105, 102, 121]]) (t := t) (by rw [← h]; simp only [List.map_cons, List.map_nil, itoa_bare, wl0, wl1, wl2, wl3, wl4, wl5, wl6, wl7, wl8, wl9, wl10, wl11, wl12, wl13, wl14, wl15])]
      simp [parseW, findL, FORMS, matchF, parseF, stepF, initA, zAct, tOff, bOff, nOff, setT, setB, setN]
      simp [hz]
    · obtain rfl := hk
      rw [parse_line (l := [[111, 112, 101, 110]]) (t := t) (by rw [← h]; simp only [List.map_cons, List.map_nil, itoa_bare, wl0, wl1, wl2, wl3, wl4, wl5, wl6, wl7, wl8, wl9, wl10, wl11, wl12, wl13, wl14, wl15])]
      simp [parseW, findL, FORMS, matchF, parseF, stepF, initA, zAct, tOff, bOff, nOff, setT, setB, setN]
      simp [hz]
    · obtain rfl := hk
      rw [parse_line (l := [[99, 114, 97, 115, 104], Lib.itoa n, Lib.itoa m]) (t := t) (by rw [← h]; simp only [List.map_cons, List.map_nil, itoa_bare, wl0, wl1, wl2, wl3, wl4, wl5, wl6, wl7, wl8, wl9, wl10, wl11, wl12, wl13, wl14, wl15])]
      have i1 := numP_itoa ho.1
      have i2 := numP_itoa ho.2
      simp [parseW, findL, FORMS, matchF, parseF, stepF, initA, zAct, tOff, bOff, nOff, setT, setB, setN, i1, i2]
      simp [hz]
    · obtain rfl := hk
      rw [parse_line (l := [[97, 114, 109], Lib.itoa n]) (t := t) (by rw [← h]; simp only [List.map_cons, List.map_nil, itoa_bare, wl0, wl1, wl2, wl3, wl4, wl5, wl6, wl7, wl8, wl9, wl10, wl11, wl12, wl13, wl14, wl15])]
      have i1 := numP_itoa ho
      simp [parseW, findL, FORMS, matchF, parseF, stepF, initA, zAct, tOff, bOff, nOff, setT, setB, setN, i1]
      simp [hz]
    · obtain rfl := hk
      rw [parse_line (l := [[119, 114, 105, 116, 101], name, data]) (t := t) (by rw [← h]; simp only [List.map_cons, List.map_nil, itoa_bare, wl0, wl1, wl2, wl3, wl4, wl5, wl6, wl7, wl8, wl9, wl10, wl11, wl12, wl13, wl14, wl15])]
      simp [parseW, findL, FORMS, matchF, parseF, stepF, initA, zAct, tOff, bOff, nOff, setT, setB, setN]
      simp [hz]
    · obtain rfl := hk
      rw [parse_line (l := [[100, 114, 111, 112], name]) (t := t) (by rw [← h]; simp only [List.map_cons, List.map_nil, itoa_bare, wl0, wl1, wl2, wl3, wl4, wl5, wl6, wl7, wl8, wl9, wl10, wl11, wl12, wl13, wl14, wl15])]
      simp [parseW, findL, FORMS, matchF, parseF, stepF, initA, zAct, tOff, bOff, nOff, setT, setB, setN]
      simp [hz]
    · obtain rfl := hk
      obtain ⟨k1, k2, k3⟩ := kind_word h8
      rw [parse_line (l := [[102, 97, 117, 108, 116], url, Lib.itoa att, kindW fk, Lib.itoa fn, fdata]) (t := t) (by rw [← h]; simp only [List.map_cons, List.map_nil, itoa_bare, wl0, wl1, wl2, wl3, wl4, wl5, wl6, wl7, wl8, wl9, wl10, wl11, wl12, wl13, wl14, wl15, k3])]
      have i1 := numP_itoa ho.1
      have i2 := numP_itoa ho.2
      simp [parseW, findL, FORMS, matchF, parseF, stepF, initA, zAct, tOff, bOff, nOff, setT, setB, setN, i1, i2, k1, k2]
      simp [hz]
    · obtain rfl := hk
      rw [parse_line (l := [[112, 97, 103, 101], name, data]) (t := t) (by rw [← h]; simp only [List.map_cons, List.map_nil, itoa_bare, wl0, wl1, wl2, wl3, wl4, wl5, wl6, wl7, wl8, wl9, wl10, wl11, wl12, wl13, wl14, wl15])]
      simp [parseW, findL, FORMS, matchF, parseF, stepF, initA, zAct, tOff, bOff, nOff, setT, setB, setN]
      simp [hz]
    · obtain rfl := hk
      rw [parse_line (l := [[111, 102, 102, 108, 105, 110, 101], Lib.itoa n]) (t := t) (by rw [← h]; simp only [List.map_cons, List.map_nil, itoa_bare, wl0, wl1, wl2, wl3, wl4, wl5, wl6, wl7, wl8, wl9, wl10, wl11, wl12, wl13, wl14, wl15])]
      have i1 := numP_itoa ho
      simp [parseW, findL, FORMS, matchF, parseF, stepF, initA, zAct, tOff, bOff, nOff, setT, setB, setN, i1]
      simp [hz]
    · obtain rfl := hk
      rw [parse_line (l := [[119, 111, 114, 107, 101, 114, 115], Lib.itoa n]) (t := t) (by rw [← h]; simp only [List.map_cons, List.map_nil, itoa_bare, wl0, wl1, wl2, wl3, wl4, wl5, wl6, wl7, wl8, wl9, wl10, wl11, wl12, wl13, wl14, wl15])]
      have i1 := numP_itoa ho
      simp [parseW, findL, FORMS, matchF, parseF, stepF, initA, zAct, tOff, bOff, nOff, setT, setB, setN, i1]
      simp [hz]
/-- an act of a line is written as the line's words -/
theorem back2 {s : List UInt8} {c : ActD} (h : parseA s = (c, 0)) : formatA c = limP ((wordsOf s).map writeW) := by
  unfold parseA at h
  split at h
  · rename_i he
    exact absurd (congrArg Prod.snd h) he
  generalize wordsOf s = l at h ⊢
  unfold parseW at h
  split at h
  · cases h
  rename_i f k hf
  split at h
  · cases h
  rename_i hlen
  rw [Decidable.not_not] at hlen
  split at h
  · cases h
  rename_i a syn hp
  split at h
  · cases h
  rename_i hsyn
  rw [Bool.not_eq_true] at hsyn
  subst hsyn
  obtain rfl : a = c := congrArg Prod.fst h
  obtain ⟨hm, hmf⟩ := findL_some hf
  clear h hf
  simp only [FORMS, List.mem_cons, List.not_mem_nil, or_false] at hm
  rcases hm with rfl | rfl | rfl | rfl | rfl | rfl | rfl | rfl | rfl | rfl | rfl | rfl | rfl | rfl | rfl
  · rcases l with _ | ⟨x0, _ | ⟨x1, r⟩⟩
    · simp [matchF] at hmf
    · simp [matchF] at hmf
    simp [matchF] at hmf
    obtain ⟨rfl, rfl, rfl⟩ := hmf
    rcases r with _ | ⟨y1, _ | ⟨y2, _ | ⟨y3, r0⟩⟩⟩ <;> simp at hlen
    simp [parseF, stepF, initA, zAct, tOff, bOff, nOff, setT, setB, setN] at hp
    subst hp
    simp [formatA, findA, FORMS, matchA, formatF, less, seconds, saidF, saidStep, tOff, bOff, nOff, getT, getB, getN, setT, setB, setN, zeroA, itoa_bare, wl0, wl1, wl2, wl3, wl4, wl5, wl6, wl7, wl8, wl9, wl10, wl11, wl12, wl13, wl14, wl15]
  · rcases l with _ | ⟨x0, _ | ⟨x1, r⟩⟩
    · simp [matchF] at hmf
    · simp [matchF] at hmf
    simp [matchF] at hmf
    obtain ⟨rfl, rfl, rfl⟩ := hmf
    rcases r with _ | ⟨y1, r0⟩ <;> simp at hlen
    simp [parseF, stepF, initA, zAct, tOff, bOff, nOff, setT, setB, setN] at hp
    subst hp
    simp [formatA, findA, FORMS, matchA, formatF, less, seconds, saidF, saidStep, tOff, bOff, nOff, getT, getB, getN, setT, setB, setN, zeroA, itoa_bare, wl0, wl1, wl2, wl3, wl4, wl5, wl6, wl7, wl8, wl9, wl10, wl11, wl12, wl13, wl14, wl15]
  · rcases l with _ | ⟨x0, _ | ⟨x1, r⟩⟩
    · simp [matchF] at hmf
    · simp [matchF] at hmf
    simp [matchF] at hmf
    obtain ⟨rfl, rfl, rfl⟩ := hmf
    rcases r with _ | ⟨y1, r0⟩ <;> simp at hlen
    simp [parseF, stepF, initA, zAct, tOff, bOff, nOff, setT, setB, setN] at hp
    subst hp
    simp [formatA, findA, FORMS, matchA, formatF, less, seconds, saidF, saidStep, tOff, bOff, nOff, getT, getB, getN, setT, setB, setN, zeroA, itoa_bare, wl0, wl1, wl2, wl3, wl4, wl5, wl6, wl7, wl8, wl9, wl10, wl11, wl12, wl13, wl14, wl15]
  · rcases l with _ | ⟨x0, _ | ⟨x1, r⟩⟩
    · simp [matchF] at hmf
    · simp [matchF] at hmf
    simp [matchF] at hmf
    obtain ⟨rfl, rfl, rfl⟩ := hmf
    rcases r with _ | ⟨y1, _ | ⟨y2, _ | ⟨y3, r0⟩⟩⟩ <;> simp at hlen
    simp [parseF, stepF, initA, zAct, tOff, bOff, nOff, setT, setB, setN] at hp
    subst hp
    simp [formatA, findA, FORMS, matchA, formatF, less, seconds, saidF, saidStep, tOff, bOff, nOff, getT, getB, getN, setT, setB, setN, zeroA, itoa_bare, wl0, wl1, wl2, wl3, wl4, wl5, wl6, wl7, wl8, wl9, wl10, wl11, wl12, wl13, wl14, wl15]
  · rcases l with _ | ⟨x0, _ | ⟨x1, r⟩⟩
    · simp [matchF] at hmf
    · simp [matchF] at hmf
    simp [matchF] at hmf
    obtain ⟨rfl, rfl, rfl⟩ := hmf
    rcases r with _ | ⟨y1, r0⟩ <;> simp at hlen
    simp [parseF, stepF, initA, zAct, tOff, bOff, nOff, setT, setB, setN] at hp
    subst hp
    simp [formatA, findA, FORMS, matchA, formatF, less, seconds, saidF, saidStep, tOff, bOff, nOff, getT, getB, getN, setT, setB, setN, zeroA, itoa_bare, wl0, wl1, wl2, wl3, wl4, wl5, wl6, wl7, wl8, wl9, wl10, wl11, wl12, wl13, wl14, wl15]
  · rcases l with _ | ⟨x0, r⟩
    · simp [matchF] at hmf
    simp [matchF] at hmf
    obtain ⟨rfl, rfl⟩ := hmf
    rcases r with _ | ⟨y1, r0⟩ <;> simp at hlen
    simp [parseF, stepF, initA, zAct, tOff, bOff, nOff, setT, setB, setN] at hp
    subst hp
    simp [formatA, findA, FORMS, matchA, formatF, less, seconds, saidF, saidStep, tOff, bOff, nOff, getT, getB, getN, setT, setB, setN, zeroA, itoa_bare, wl0, wl1, wl2, wl3, wl4, wl5, wl6, wl7, wl8, wl9, wl10, wl11, wl12, wl13, wl14, wl15]
  · rcases l with _ | ⟨x0, r⟩
    · simp [matchF] at hmf
    simp [matchF] at hmf
    obtain ⟨rfl, rfl⟩ := hmf
    rcases r with _ | ⟨y1, r0⟩ <;> simp at hlen
    simp [parseF, stepF, initA, zAct, tOff, bOff, nOff, setT, setB, setN] at hp
    subst hp
    simp [formatA, findA, FORMS, matchA, formatF, less, seconds, saidF, saidStep, tOff, bOff, nOff, getT, getB, getN, setT, setB, setN, zeroA, itoa_bare, wl0, wl1, wl2, wl3, wl4, wl5, wl6, wl7, wl8, wl9, wl10, wl11, wl12, wl13, wl14, wl15]
  · rcases l with _ | ⟨x0, r⟩
    · simp [matchF] at hmf
    simp [matchF] at hmf
    obtain ⟨rfl, rfl⟩ := hmf
    rcases r with _ | ⟨y1, _ | ⟨y2, _ | ⟨y3, r0⟩⟩⟩ <;> simp at hlen
    rcases n1 : numP y1 with _ | v1
    · simp [parseF, stepF, initA, zAct, tOff, bOff, nOff, setT, setB, setN, n1] at hp
    rcases n2 : numP y2 with _ | v2
    · simp [parseF, stepF, initA, zAct, tOff, bOff, nOff, setT, setB, setN, n1, n2] at hp
    simp [parseF, stepF, initA, zAct, tOff, bOff, nOff, setT, setB, setN, n1, n2] at hp
    subst hp
    obtain ⟨rfl, a1, b1⟩ := numP_iff.1 n1
    have q1 : inN v1 = true := decide_eq_true ⟨a1, b1⟩
    obtain ⟨rfl, a2, b2⟩ := numP_iff.1 n2
    have q2 : inN v2 = true := decide_eq_true ⟨a2, b2⟩
    simp [formatA, findA, FORMS, matchA, formatF, less, seconds, saidF, saidStep, tOff, bOff, nOff, getT, getB, getN, setT, setB, setN, zeroA, itoa_bare, wl0, wl1, wl2, wl3, wl4, wl5, wl6, wl7, wl8, wl9, wl10, wl11, wl12, wl13, wl14, wl15, q1, q2]
  · rcases l with _ | ⟨x0, r⟩
    · simp [matchF] at hmf
    simp [matchF] at hmf
    obtain ⟨rfl, rfl⟩ := hmf
    rcases r with _ | ⟨y1, _ | ⟨y2, r0⟩⟩ <;> simp at hlen
    rcases n1 : numP y1 with _ | v1
    · simp [parseF, stepF, initA, zAct, tOff, bOff, nOff, setT, setB, setN, n1] at hp
    simp [parseF, stepF, initA, zAct, tOff, bOff, nOff, setT, setB, setN, n1] at hp
    subst hp
    obtain ⟨rfl, a1, b1⟩ := numP_iff.1 n1
    have q1 : inN v1 = true := decide_eq_true ⟨a1, b1⟩
    simp [formatA, findA, FORMS, matchA, formatF, less, seconds, saidF, saidStep, tOff, bOff, nOff, getT, getB, getN, setT, setB, setN, zeroA, itoa_bare, wl0, wl1, wl2, wl3, wl4, wl5, wl6, wl7, wl8, wl9, wl10, wl11, wl12, wl13, wl14, wl15, q1]
  · rcases l with _ | ⟨x0, r⟩
    · simp [matchF] at hmf
    simp [matchF] at hmf
    obtain ⟨rfl, rfl⟩ := hmf
    rcases r with _ | ⟨y1, _ | ⟨y2, _ | ⟨y3, r0⟩⟩⟩ <;> simp at hlen
    simp [parseF, stepF, initA, zAct, tOff, bOff, nOff, setT, setB, setN] at hp
    subst hp
    simp [formatA, findA, FORMS, matchA, formatF, less, seconds, saidF, saidStep, tOff, bOff, nOff, getT, getB, getN, setT, setB, setN, zeroA, itoa_bare, wl0, wl1, wl2, wl3, wl4, wl5, wl6, wl7, wl8, wl9, wl10, wl11, wl12, wl13, wl14, wl15]
  · rcases l with _ | ⟨x0, r⟩
    · simp [matchF] at hmf
    simp [matchF] at hmf
    obtain ⟨rfl, rfl⟩ := hmf
    rcases r with _ | ⟨y1, _ | ⟨y2, r0⟩⟩ <;> simp at hlen
    simp [parseF, stepF, initA, zAct, tOff, bOff, nOff, setT, setB, setN] at hp
    subst hp
    simp [formatA, findA, FORMS, matchA, formatF, less, seconds, saidF, saidStep, tOff, bOff, nOff, getT, getB, getN, setT, setB, setN, zeroA, itoa_bare, wl0, wl1, wl2, wl3, wl4, wl5, wl6, wl7, wl8, wl9, wl10, wl11, wl12, wl13, wl14, wl15]
  · rcases l with _ | ⟨x0, r⟩
    · simp [matchF] at hmf
    simp [matchF] at hmf
    obtain ⟨rfl, rfl⟩ := hmf
    rcases r with _ | ⟨y1, _ | ⟨y2, _ | ⟨y3, _ | ⟨y4, _ | ⟨y5, _ | ⟨y6, r0⟩⟩⟩⟩⟩⟩ <;> simp at hlen
    rcases n2 : numP y2 with _ | v2
    · simp [parseF, stepF, initA, zAct, tOff, bOff, nOff, setT, setB, setN, n2] at hp
    rcases n4 : numP y4 with _ | v4
    · simp [parseF, stepF, initA, zAct, tOff, bOff, nOff, setT, setB, setN, n2, n4] at hp
    simp [parseF, stepF, initA, zAct, tOff, bOff, nOff, setT, setB, setN, n2, n4] at hp
    obtain ⟨rfl, hk⟩ := hp
    obtain ⟨w1, w2⟩ := word_kind hk
    have w3 := (kind_word w2).2.2
    rw [w1] at w2 w3
    obtain ⟨rfl, a2, b2⟩ := numP_iff.1 n2
    have q2 : inN v2 = true := decide_eq_true ⟨a2, b2⟩
    obtain ⟨rfl, a4, b4⟩ := numP_iff.1 n4
    have q4 : inN v4 = true := decide_eq_true ⟨a4, b4⟩
    simp [formatA, findA, FORMS, matchA, formatF, less, seconds, saidF, saidStep, tOff, bOff, nOff, getT, getB, getN, setT, setB, setN, zeroA, itoa_bare, wl0, wl1, wl2, wl3, wl4, wl5, wl6, wl7, wl8, wl9, wl10, wl11, wl12, wl13, wl14, wl15, w1, w2, w3, q2, q4]
  · rcases l with _ | ⟨x0, r⟩
    · simp [matchF] at hmf
    simp [matchF] at hmf
    obtain ⟨rfl, rfl⟩ := hmf
    rcases r with _ | ⟨y1, _ | ⟨y2, _ | ⟨y3, r0⟩⟩⟩ <;> simp at hlen
    simp [parseF, stepF, initA, zAct, tOff, bOff, nOff, setT, setB, setN] at hp
    subst hp
    simp [formatA, findA, FORMS, matchA, formatF, less, seconds, saidF, saidStep, tOff, bOff, nOff, getT, getB, getN, setT, setB, setN, zeroA, itoa_bare, wl0, wl1, wl2, wl3, wl4, wl5, wl6, wl7, wl8, wl9, wl10, wl11, wl12, wl13, wl14, wl15]
  · rcases l with _ | ⟨x0, r⟩
    · simp [matchF] at hmf
    simp [matchF] at hmf
    obtain ⟨rfl, rfl⟩ := hmf
    rcases r with _ | ⟨y1, _ | ⟨y2, r0⟩⟩ <;> simp at hlen
    rcases n1 : numP y1 with _ | v1
    · simp [parseF, stepF, initA, zAct, tOff, bOff, nOff, setT, setB, setN, n1] at hp
    simp [parseF, stepF, initA, zAct, tOff, bOff, nOff, setT, setB, setN, n1] at hp
    subst hp
    obtain ⟨rfl, a1, b1⟩ := numP_iff.1 n1
    have q1 : inN v1 = true := decide_eq_true ⟨a1, b1⟩
    simp [formatA, findA, FORMS, matchA, formatF, less, seconds, saidF, saidStep, tOff, bOff, nOff, getT, getB, getN, setT, setB, setN, zeroA, itoa_bare, wl0, wl1, wl2, wl3, wl4, wl5, wl6, wl7, wl8, wl9, wl10, wl11, wl12, wl13, wl14, wl15, q1]
  · rcases l with _ | ⟨x0, r⟩
    · simp [matchF] at hmf
    simp [matchF] at hmf
    obtain ⟨rfl, rfl⟩ := hmf
    rcases r with _ | ⟨y1, _ | ⟨y2, r0⟩⟩ <;> simp at hlen
    rcases n1 : numP y1 with _ | v1
    · simp [parseF, stepF, initA, zAct, tOff, bOff, nOff, setT, setB, setN, n1] at hp
    simp [parseF, stepF, initA, zAct, tOff, bOff, nOff, setT, setB, setN, n1] at hp
    subst hp
    obtain ⟨rfl, a1, b1⟩ := numP_iff.1 n1
    have q1 : inN v1 = true := decide_eq_true ⟨a1, b1⟩
    simp [formatA, findA, FORMS, matchA, formatF, less, seconds, saidF, saidStep, tOff, bOff, nOff, getT, getB, getN, setT, setB, setN, zeroA, itoa_bare, wl0, wl1, wl2, wl3, wl4, wl5, wl6, wl7, wl8, wl9, wl10, wl11, wl12, wl13, wl14, wl15, q1]
end Go.Proofs.YtbmnbhammganfaaDoor
namespace Go.Proofs.YtbmnbhammganfaaDoor
open Go.RowKit

set_option linter.unusedSimpArgs false

theorem parse_zero {s : List UInt8} (h : (parseA s).2 ≠ 0) : (parseA s).1 = zAct := by
  unfold parseA at h ⊢
  split
  · rfl
  rename_i he
  rw [if_neg he] at h
  unfold parseW at h ⊢
  split
  · rfl
  rename_i f k hf
  rw [hf] at h
  simp only at h
  split
  · rfl
  rename_i hl
  rw [if_neg hl] at h
  split
  · rfl
  rename_i a syn hp
  rw [hp] at h
  simp only at h
  split
  · rfl
  rename_i hs
  rw [if_neg hs] at h
  exact absurd rfl h
theorem writeW_len6 (x : List UInt8) : (writeW x).length ≤ 6 * x.length + 2 := by
  unfold writeW
  split
  · omega
  · exact quoteL_len_le x
theorem joinB_len6 (l : List (List UInt8)) : (joinB (l.map writeW)).length ≤ 6 * (l.map List.length).sum + 3 * l.length := by
  induction l with
  | nil => simp [joinB]
  | cons x r ih =>
    have h1 := writeW_len6 x
    cases r with
    | nil => simp [joinB]; omega
    | cons y r =>
      have h2 : joinB ((x :: y :: r).map writeW) = writeW x ++ 32 :: joinB ((y :: r).map writeW) := rfl
      rw [h2, List.length_append, List.length_cons]
      generalize joinB ((y :: r).map writeW) = J at ih ⊢
      generalize y :: r = R at ih ⊢
      rw [List.map_cons, List.sum_cons, List.length_cons]
      omega
theorem back3 {s : List UInt8} {c : ActD} (h : parseA s = (c, 0)) : ((formatA c).2 = 13 ∧ 10 < s.length) ∨ ((formatA c).2 = 0 ∧ parseA (formatA c).1 = (c, 0)) := by
  have h2 := back2 h
  have h3 : ∀ t, formatA c = (t, 0) → parseA t = (c, 0) := fun t ht => back1 ht
  unfold limP at h2
  by_cases hl : 65536 < (joinB ((wordsOf s).map writeW)).length
  · rw [if_pos hl] at h2
    refine .inl ⟨by rw [h2], ?_⟩
    have hw : ((wordsOf s).map List.length).sum ≤ s.length := by
      unfold wordsOf
      split
      · simp
      · split
        · simp
        · rename_i l hl2
          exact (wordsF_sum _ _ _ hl2).1
    have hw2 : (wordsOf s).length ≤ s.length := by
      unfold wordsOf
      split
      · simp
      · split
        · simp
        · rename_i l hl2
          exact (wordsF_sum _ _ _ hl2).2
    have := joinB_len6 (wordsOf s)
    omega
  · rw [if_neg hl] at h2
    refine .inr ⟨by rw [h2], ?_⟩
    rw [h2]
    exact h3 _ h2
theorem newK_ok {k : Int} (x : List UInt8) (h : -9223372036854775808 ≤ k ∧ k ≤ 9223372036854775807) : -9223372036854775808 ≤ newK k x ∧ newK k x ≤ 9223372036854775807 := by
  unfold newK
  cases hf : KT.find? (fun p => decide (p.2 = x)) with
  | none => exact h
  | some p =>
    have h1 := List.mem_of_find?_eq_some hf
    have hall : ∀ q ∈ KT, -9223372036854775808 ≤ q.1 ∧ q.1 ≤ 9223372036854775807 := by decide
    exact hall p h1
theorem stepF_ok {c : UInt8} {x : List UInt8} {s s' : ActD × Bool} (hx : x.length ≤ 1048576) (h : ActOk s.1) (hs : stepF c x s = some s') : ActOk s'.1 := by
  obtain ⟨h1, h2, h3, h4, h5, h6, h7, h8, h9, h10, h11⟩ := h
  unfold stepF at hs
  split at hs
  · cases hs
    unfold setT
    repeat' split
    all_goals constructor <;> first | assumption | exact hx
  split at hs
  · cases hs
    unfold setB
    repeat' split
    all_goals constructor <;> first | assumption | exact hx
  split at hs
  · rw [Option.map_eq_some_iff] at hs
    obtain ⟨n, hn, rfl⟩ := hs
    have hn2 := (numP_iff.1 hn).2
    have hn3 : -9223372036854775808 ≤ n ∧ n ≤ 9223372036854775807 := by omega
    unfold setN
    repeat' split
    all_goals constructor <;> first | assumption | exact hn3
  split at hs
  · cases hs
    constructor <;> first | assumption | exact newK_ok x h11
  · cases hs
    exact ⟨h1, h2, h3, h4, h5, h6, h7, h8, h9, h10, h11⟩
theorem parseF_ok : ∀ (cs : List UInt8) (xs : List (List UInt8)) (s s' : ActD × Bool), (∀ x ∈ xs, x.length ≤ 1048576) → ActOk s.1 → parseF cs xs s = some s' → ActOk s'.1
  | [], _, s, s', _, h, hp => by simp [parseF] at hp; subst hp; exact h
  | _ :: _, [], s, s', _, h, hp => by simp [parseF] at hp; subst hp; exact h
  | c :: cs, x :: xs, s, s', hx, h, hp => by
    rw [parseF] at hp
    cases hs : stepF c x s with
    | none => rw [hs] at hp; cases hp
    | some s1 =>
      rw [hs] at hp
      exact parseF_ok cs xs s1 s' (fun y hy => hx y (by simp [hy])) (stepF_ok (hx x (by simp)) h hs) hp
theorem zAct_ok : ActOk zAct := ⟨by decide, by decide, by decide, by decide, by decide, by decide, by decide, by decide, by decide, by decide, by decide⟩
theorem initA_ok (f : Form) : ActOk (initA f) := ⟨zAct_ok.path, zAct_ok.ver, zAct_ok.name, zAct_ok.url, zAct_ok.data, zAct_ok.fdata, zAct_ok.n, zAct_ok.m, zAct_ok.att, zAct_ok.fn, zAct_ok.fk⟩
theorem parse_ok {s : List UInt8} (hs : s.length ≤ 1048576) : ActOk (parseA s).1 := by
  unfold parseA
  split
  · exact zAct_ok
  unfold parseW
  split
  · exact zAct_ok
  split
  · exact zAct_ok
  split
  · exact zAct_ok
  rename_i a syn hp
  split
  · exact zAct_ok
  · exact parseF_ok _ _ _ _ (fun x hx => Nat.le_trans (wordsOf_len (List.mem_of_mem_drop hx)) hs) (initA_ok _) hp
end Go.Proofs.YtbmnbhammganfaaDoor
namespace Go.Proofs.YtbmnbhammganfaaDoor
open Go.RowKit Go.Maps

set_option linter.unusedSimpArgs false

attribute [local go_sem] lt1 lt2 lt3 lt4 lt5 lt6

theorem joinB_snoc : ∀ (l : List (List UInt8)) (x : List UInt8), joinB (l ++ [x]) = if l = [] then x else joinB l ++ 32 :: x
  | [], x => rfl
  | [a], x => rfl
  | a :: b :: r, x => by
    have ih := joinB_snoc (b :: r) x
    rw [if_neg (by simp)] at ih ⊢
    have h1 : joinB (a :: b :: r ++ [x]) = a ++ 32 :: joinB (b :: r ++ [x]) := rfl
    have h2 : joinB (a :: b :: r) = a ++ 32 :: joinB (b :: r) := rfl
    rw [h1, h2, ih, List.append_assoc]
    rfl
def wrD (D : List ByteArray) : List (List UInt8) := D.map fun p => writeW (toL p)
theorem wrD_eq (D : List ByteArray) : wrD D = (D.map toL).map writeW := by unfold wrD; rw [List.map_map]; rfl
theorem sum_le {l : List Nat} {m : Nat} (h : ∀ x ∈ l, x ≤ m) : l.sum ≤ m * l.length := by
  induction l with
  | nil => simp
  | cons x r ih =>
    have h1 := h x (by simp)
    have h2 := ih fun y hy => h y (by simp [hy])
    rw [List.sum_cons, List.length_cons, Nat.mul_succ]
    omega
theorem wrD_len {D : List ByteArray} (hD : ∀ p ∈ D, p.size ≤ 1048576) (hn : D.length ≤ 100000) (i : Nat) : (joinB (wrD (D.take i))).length ≤ 700000000000 := by
  rw [wrD_eq]
  have h1 := joinB_len6 ((D.take i).map toL)
  have h2 : (((D.take i).map toL).map List.length).sum ≤ 1048576 * (((D.take i).map toL).map List.length).length := sum_le fun x hx => by
    obtain ⟨y, hy, rfl⟩ := List.mem_map.1 hx
    obtain ⟨p, hp, rfl⟩ := List.mem_map.1 hy
    rw [toL_len]
    exact hD p (List.mem_of_mem_take hp)
  simp only [List.length_map, List.length_take] at h1 h2
  omega
def RlRel (w : World) (D : List ByteArray) (sv iv : Value) (wr : World) : Prop := ∃ (i : Nat) (S : ByteArray), i ≤ D.length ∧ iv = .int .i64 i ∧ sv = .string S ∧ S = mkS (joinB (wrD (D.take i))) ∧ Below w.heap.size w wr
set_option maxRecDepth 100000 in
set_option maxHeartbeats 4000000 in
theorem line_ref (w : World) (D : List ByteArray) (A : Option Addr) (c : Nat) (hs : Sl w A c D.length 1 (txs D)) (hD : ∀ p ∈ D, p.size ≤ 1048576) (hn : D.length ≤ 100000) :
    Calls Tryd.prog 26 #[.slice A D.length c] w fun e w' => e = .returned (.tuple #[.string (mkS (joinB (wrD D))), .bool (decide ((joinB (wrD D)).length ≤ 65536))]) ∧ Below w.heap.size w w' := by
  have HS := Lib.hid hs
  have HD := Lib.hid hD
  have Hn := Lib.hid hn
  have hdl : D.length ≤ 9223372036854775807 := by omega
  clear hs hD hn
  go_enter Tryd.func26, Tryd.ntmps26
  go_wp2_with fail
  go_loopw [4, 5] (fun sv iv wr => RlRel w D sv iv wr) (fun _ iv _ => D.length - (intOf iv).toNat)
  case atStart => exact ⟨0, ⟨#[]⟩, Nat.zero_le _, rfl, rfl, rfl, Below.refl _ _⟩
  case round =>
    obtain ⟨i, S, hi, rfl, rfl, hS, hB⟩ := hrel
    have hSz : S.size ≤ 700000000000 := by rw [hS, mkS_size]; exact wrD_len HD.out Hn.out i
    have HSt := Lib.hid hS
    have HB := Lib.hid hB
    clear hS hB
    by_cases hlt : i < D.length
    · obtain ⟨ba, oa, p, rfl, hp, g1⟩ := str_at (HS.out.keep (Cells.of_below HB.out)) hlt
      have hltI : (i : Int) < D.length := by omega
      have Hp := Lib.hid hp
      have hps : p.size ≤ 1048576 := HD.out p (List.mem_of_getElem? hp)
      clear hp
      have Hstep : Hid (joinB (wrD (D.take (i + 1))) = if D.take i = [] then writeW (toL p) else joinB (wrD (D.take i)) ++ 32 :: writeW (toL p)) := Lib.hid (by
        rw [take_snoc Hp.out]
        unfold wrD
        rw [List.map_append, List.map_singleton, joinB_snoc]
        simp)
      have Hwl := Lib.hid (writeW_len6 (toL p))
      by_cases h0 : i = 0
      · subst h0
        rw [Nat.add_zero] at g1
        have hgt : ¬ (0 : Int) < ((0 : Nat) : Int) := by omega
        go_wp2_with fail
        refine (word_ref _ p hps).mono ?_
        rintro e y1 ⟨rfl, hB1⟩
        have HB1' := Lib.hid (HB.out.trans (hB1.mono HB.out.size))
        obtain ⟨Q, hQ⟩ : ∃ Q, Q = mkS (writeW (toL p)) := ⟨_, rfl⟩
        rw [← hQ]
        have hQz : Q.size ≤ 6291458 := by
          rw [hQ, mkS_size]
          have := Hwl.out
          rw [toL_len] at this
          omega
        have HQ := Lib.hid hQ
        clear hB1 hQ
        go_wp2_with fail
        go_roundw
        case rel =>
          refine ⟨1, _, by omega, by go_num, rfl, ?_, HB1'.out⟩
          apply toL_inj
          rw [toL_append, HSt.out, HQ.out, toL_mkS, toL_mkS, toL_mkS, show 1 = 0 + 1 from rfl, Hstep.out]
          simp [wrD, joinB]
        case measure => simp [intOf]; omega
      · have hgt : (0 : Int) < (i : Int) := by omega
        go_wp2_with fail
        refine (word_ref _ p hps).mono ?_
        rintro e y1 ⟨rfl, hB1⟩
        have HB1' := Lib.hid (HB.out.trans (hB1.mono HB.out.size))
        obtain ⟨Q, hQ⟩ : ∃ Q, Q = mkS (writeW (toL p)) := ⟨_, rfl⟩
        rw [← hQ]
        have hQz : Q.size ≤ 6291458 := by
          rw [hQ, mkS_size]
          have := Hwl.out
          rw [toL_len] at this
          omega
        have HQ := Lib.hid hQ
        have Hne : Hid (D.take i ≠ []) := Lib.hid fun he => by
          have := congrArg List.length he
          rw [List.length_take, List.length_nil] at this
          omega
        clear hB1 hQ
        go_wp2_with fail
        go_roundw
        case rel =>
          refine ⟨i + 1, _, by omega, by go_num, rfl, ?_, HB1'.out⟩
          apply toL_inj
          rw [toL_append, toL_append, HSt.out, HQ.out, toL_mkS, toL_mkS, toL_mkS, Hstep.out, if_neg Hne.out, List.append_assoc]
          rfl
        case measure => simp [intOf]; omega
    · have hltI : ¬ (i : Int) < D.length := by omega
      have hie : i = D.length := by omega
      have HSe : Hid (S = mkS (joinB (wrD D))) := Lib.hid (by rw [HSt.out, hie, List.take_of_length_le (Nat.le_refl _)])
      clear hie
      go_wp2_with fail
      go_ret2
      refine ⟨?_, HB.out⟩
      have hd : decide ((joinB (wrD D)).length ≤ 65536) = decide ((S.size : Int) ≤ 65536) := decide_eq_decide.2 (by rw [HSe.out, mkS_size]; omega)
      rw [hd, ← HSe.out]
      rfl
end Go.Proofs.YtbmnbhammganfaaDoor
namespace Go.Proofs.YtbmnbhammganfaaDoor
open Go.RowKit Go.Maps

set_option linter.unusedSimpArgs false

attribute [local go_sem] lt1 lt2 lt3 lt4 lt5 lt6

/-- a form of the reference: kind, sub, word, what follows -/
structure RForm where
  kind : Nat
  sub : Nat
  word : List UInt8
  says : List UInt8
def rfV (f : RForm) : List Value := [.int .i64 (f.kind : Nat), .int .i64 (f.sub : Nat), .string (mkS f.word), .string (mkS f.says)]
def RFORMS : List RForm := [
  ⟨1, 1, [114, 117, 110, 32, 103, 101, 116], [116, 116]⟩,
  ⟨1, 2, [114, 117, 110, 32, 116, 105, 100, 121], []⟩,
  ⟨1, 3, [114, 117, 110, 32, 117, 112, 103, 114, 97, 100, 101], []⟩,
  ⟨1, 4, [114, 117, 110, 32, 100, 111, 119, 110, 103, 114, 97, 100, 101], [116, 116]⟩,
  ⟨1, 5, [114, 117, 110, 32, 118, 101, 110, 100, 111, 114], []⟩,
  ⟨2, 0, [118, 101, 114, 105, 102, 121], []⟩,
  ⟨3, 0, [111, 112, 101, 110], []⟩,
  ⟨4, 0, [99, 114, 97, 115, 104], [110, 110]⟩,
  ⟨5, 0, [97, 114, 109], [110]⟩,
  ⟨6, 0, [119, 114, 105, 116, 101], [116, 116]⟩,
  ⟨7, 0, [100, 114, 111, 112], [116]⟩,
  ⟨8, 0, [102, 97, 117, 108, 116], [116, 110, 107, 110, 116]⟩,
  ⟨9, 0, [112, 97, 103, 101], [116, 116]⟩,
  ⟨10, 0, [111, 102, 102, 108, 105, 110, 101], [110]⟩,
  ⟨11, 0, [119, 111, 114, 107, 101, 114, 115], [110]⟩]
def rfsV : List RForm → List Value
  | [] => []
  | f :: r => rfV f ++ rfsV r
set_option maxHeartbeats 4000000 in
theorem rforms_any (w : World) : Calls Tryd.prog 48 #[] w fun e w' => e = .returned (.slice (some ⟨w.heap.size, 0, none⟩) 15 15) ∧ w' = w.alloc (.cells (rfsV RFORMS).toArray 105) := by
  go_enter Tryd.func48, Tryd.ntmps48
  go_wp2_with fail
  go_ret
  exact ⟨rfl, rfl⟩
def KW : List ByteArray := KT.map fun p => mkS p.2
theorem rkinds_any (w : World) : Calls Tryd.prog 51 #[] w fun e w' => e = .returned (.slice (some ⟨w.heap.size, 0, none⟩) 7 7) ∧ w' = w.alloc (.cells (txs KW).toArray 9) := by
  go_enter Tryd.func51, Tryd.ntmps51
  go_wp2_with fail
  go_ret
  exact ⟨rfl, rfl⟩
/-- the pieces between bytes of one kind -/
def cutL (b : UInt8) : List UInt8 → List (List UInt8)
  | [] => [[]]
  | c :: r => if c = b then [] :: cutL b r else match cutL b r with
    | [] => [[c]]
    | x :: l => (c :: x) :: l
theorem cutL_ne (b : UInt8) (s : List UInt8) : cutL b s ≠ [] := by
  induction s with
  | nil => simp [cutL]
  | cons c r ih =>
    rw [cutL]
    split
    · simp
    · split <;> simp
/-- no such byte: one piece -/
theorem cutL_one {b : UInt8} {s : List UInt8} : (cutL b s).length = 1 ↔ b ∉ s := by
  induction s with
  | nil => simp [cutL]
  | cons c r ih =>
    rw [cutL]
    by_cases h : c = b
    · subst h
      have := cutL_ne c r
      have h2 : (cutL c r).length ≠ 0 := fun e => this (List.eq_nil_of_length_eq_zero e)
      rw [if_pos rfl]
      simp
      omega
    · rw [if_neg h]
      cases hq : cutL b r with
      | nil => exact absurd hq (cutL_ne b r)
      | cons x l =>
        rw [hq] at ih
        simp at ih ⊢
        rw [ih]
        constructor
        · intro h1
          exact ⟨fun e => h e.symm, h1⟩
        · intro h1
          exact h1.2
end Go.Proofs.YtbmnbhammganfaaDoor
namespace Go.Proofs.YtbmnbhammganfaaDoor
open Go.RowKit

set_option linter.unusedSimpArgs false

structure RActD where
  kind : Int
  sub : Int
  texts : List (List UInt8)
  nums : List Int
def zR : RActD := ⟨0, 0, [], []⟩
def numsR : List UInt8 → List (List UInt8) → Option (List Int)
  | c :: cs, x :: xs => if c = 110 then match numP x with
      | none => none
      | some n => (numsR cs xs).map (n :: ·)
    else numsR cs xs
  | _, _ => some []
def textsR : List UInt8 → List (List UInt8) → List (List UInt8)
  | c :: cs, x :: xs => if c = 116 then x :: textsR cs xs else textsR cs xs
  | _, _ => []
def subR : Int → List UInt8 → List (List UInt8) → Int
  | k, c :: cs, x :: xs => if c = 107 then subR (newK k x) cs xs else subR k cs xs
  | k, _, _ => k
def runW : List UInt8 := [114, 117, 110]
def rword : List (List UInt8) → List UInt8
  | [] => []
  | [x] => x
  | x :: y :: _ => if x = runW then runW ++ 32 :: y else x
def rrest : List (List UInt8) → List (List UInt8)
  | [] => []
  | [_] => []
  | x :: y :: r => if x = runW then r else y :: r
def rmatch (l : List (List UInt8)) (F : RForm) : Bool := decide (F.word = rword l) && decide ((32 : UInt8) ∉ l.headD [])
def rform (F : RForm) (ws : List (List UInt8)) : RActD × Int := if ws.length ≠ F.says.length then (zR, 14) else match numsR F.says ws with
  | none => (zR, 6)
  | some ns => if F.kind = 8 ∧ subR 0 F.says ws = 0 then (zR, 11) else (⟨(F.kind : Nat), if F.kind = 8 then subR 0 F.says ws else (F.sub : Nat), textsR F.says ws, ns⟩, 0)
def rparseW (l : List (List UInt8)) : RActD × Int := match RFORMS.find? (rmatch l) with
  | none => (zR, 7)
  | some F => rform F (rrest l)
/-- the act that is meant -/
def actR (R : RActD) : ActD :=
  if R.kind = 1 then { zAct with kind := 1, ck := R.sub, path := if R.texts.length = 2 then R.texts.getD 0 [] else [], ver := if R.texts.length = 2 then R.texts.getD 1 [] else [] }
  else if R.kind = 4 then { zAct with kind := 4, n := R.nums.getD 0 0, m := R.nums.getD 1 0 }
  else if R.kind = 5 ∨ R.kind = 10 ∨ R.kind = 11 then { zAct with kind := R.kind, n := R.nums.getD 0 0 }
  else if R.kind = 6 ∨ R.kind = 9 then { zAct with kind := R.kind, name := R.texts.getD 0 [], data := R.texts.getD 1 [] }
  else if R.kind = 7 then { zAct with kind := 7, name := R.texts.getD 0 [] }
  else if R.kind = 8 then { zAct with kind := 8, url := R.texts.getD 0 [], att := R.nums.getD 0 0, fk := R.sub, fn := R.nums.getD 1 0, fdata := R.texts.getD 1 [] }
  else { zAct with kind := R.kind }
theorem rparse_find {l : List (List UInt8)} {F : RForm} (h : F ∈ RFORMS) (hm : rmatch l F = true) : findL FORMS l ≠ none := by
  unfold rmatch at hm
  rw [Bool.and_eq_true, decide_eq_true_eq, decide_eq_true_eq] at hm
  obtain ⟨h1, h2⟩ := hm
  intro hn
  rcases l with _ | ⟨x, _ | ⟨y, r⟩⟩
  · simp [rword] at h1
    simp only [RFORMS, List.mem_cons, List.not_mem_nil, or_false] at h
    rcases h with rfl | rfl | rfl | rfl | rfl | rfl | rfl | rfl | rfl | rfl | rfl | rfl | rfl | rfl | rfl <;> simp at h1
  · simp only [rword, List.headD_cons] at h1 h2
    subst h1
    simp only [RFORMS, List.mem_cons, List.not_mem_nil, or_false] at h
    rcases h with rfl | rfl | rfl | rfl | rfl | rfl | rfl | rfl | rfl | rfl | rfl | rfl | rfl | rfl | rfl <;> simp [findL, FORMS, matchF] at hn h2
  · simp only [List.headD_cons] at h2
    simp only [rword] at h1
    by_cases hx : x = runW
    · rw [if_pos hx] at h1
      subst hx
      simp only [RFORMS, List.mem_cons, List.not_mem_nil, or_false] at h
      rcases h with rfl | rfl | rfl | rfl | rfl | rfl | rfl | rfl | rfl | rfl | rfl | rfl | rfl | rfl | rfl <;> simp [runW] at h1 <;> (subst h1; simp [findL, FORMS, matchF, runW] at hn)
    · rw [if_neg hx] at h1
      subst h1
      simp only [RFORMS, List.mem_cons, List.not_mem_nil, or_false] at h
      rcases h with rfl | rfl | rfl | rfl | rfl | rfl | rfl | rfl | rfl | rfl | rfl | rfl | rfl | rfl | rfl <;> simp [findL, FORMS, matchF] at hn h2

theorem rword_no {x : List UInt8} (h : x ≠ runW) (r : List (List UInt8)) : rword (x :: r) = x := by
  cases r with
  | nil => rfl
  | cons y r => simp only [rword]; rw [if_neg h]
theorem rrest_no {x : List UInt8} (h : x ≠ runW) (r : List (List UInt8)) : rrest (x :: r) = r := by
  cases r with
  | nil => rfl
  | cons y r => simp only [rrest]; rw [if_neg h]
/-- the reference reads the same act -/
theorem rparse_eq (l : List (List UInt8)) : (rparseW l).2 = (parseW l).2 ∧ ((parseW l).2 = 0 → actR (rparseW l).1 = (parseW l).1) := by
  cases hf : findL FORMS l with
  | none =>
    have hF : RFORMS.find? (rmatch l) = none := by
      cases hq : RFORMS.find? (rmatch l) with
      | none => rfl
      | some F => exact absurd hf (rparse_find (List.mem_of_find?_eq_some hq) (List.find?_some hq))
    unfold rparseW parseW
    rw [hf, hF]
    exact ⟨rfl, fun h => by cases h⟩
  | some p =>
    obtain ⟨f, k⟩ := p
    obtain ⟨hm, hmf⟩ := findL_some hf
    simp only [FORMS, List.mem_cons, List.not_mem_nil, or_false] at hm
    rcases hm with rfl | rfl | rfl | rfl | rfl | rfl | rfl | rfl | rfl | rfl | rfl | rfl | rfl | rfl | rfl
    · rcases l with _ | ⟨x0, _ | ⟨x1, r⟩⟩
      · simp [matchF] at hmf
      · simp [matchF] at hmf
      simp [matchF] at hmf
      obtain ⟨rfl, rfl, rfl⟩ := hmf
      have hw : rword ([114, 117, 110] :: [103, 101, 116] :: r) = [114, 117, 110, 32, 103, 101, 116] := rfl
      have hr : rrest ([114, 117, 110] :: [103, 101, 116] :: r) = r := rfl
      have hF : RFORMS.find? (rmatch ([114, 117, 110] :: [103, 101, 116] :: r)) = some ⟨1, 1, [114, 117, 110, 32, 103, 101, 116], [116, 116]⟩ := by simp [RFORMS, rmatch, hw]
      unfold rparseW parseW
      rw [hf, hF, hr]
      simp only [rform]
      by_cases hlen : r.length = 2
      · rcases r with _ | ⟨y1, _ | ⟨y2, _ | ⟨y3, r0⟩⟩⟩ <;> simp at hlen
        simp [parseF, stepF, initA, zAct, tOff, bOff, nOff, setT, setB, setN, numsR, textsR, subR, actR, zR]
      · simp [hlen, zR]
    · rcases l with _ | ⟨x0, _ | ⟨x1, r⟩⟩
      · simp [matchF] at hmf
      · simp [matchF] at hmf
      simp [matchF] at hmf
      obtain ⟨rfl, rfl, rfl⟩ := hmf
      have hw : rword ([114, 117, 110] :: [116, 105, 100, 121] :: r) = [114, 117, 110, 32, 116, 105, 100, 121] := rfl
      have hr : rrest ([114, 117, 110] :: [116, 105, 100, 121] :: r) = r := rfl
      have hF : RFORMS.find? (rmatch ([114, 117, 110] :: [116, 105, 100, 121] :: r)) = some ⟨1, 2, [114, 117, 110, 32, 116, 105, 100, 121], []⟩ := by simp [RFORMS, rmatch, hw]
      unfold rparseW parseW
      rw [hf, hF, hr]
      simp only [rform]
      by_cases hlen : r.length = 0
      · rcases r with _ | ⟨y1, r0⟩ <;> simp at hlen
        simp [parseF, stepF, initA, zAct, tOff, bOff, nOff, setT, setB, setN, numsR, textsR, subR, actR, zR]
      · simp [hlen, zR]
    · rcases l with _ | ⟨x0, _ | ⟨x1, r⟩⟩
      · simp [matchF] at hmf
      · simp [matchF] at hmf
      simp [matchF] at hmf
      obtain ⟨rfl, rfl, rfl⟩ := hmf
      have hw : rword ([114, 117, 110] :: [117, 112, 103, 114, 97, 100, 101] :: r) = [114, 117, 110, 32, 117, 112, 103, 114, 97, 100, 101] := rfl
      have hr : rrest ([114, 117, 110] :: [117, 112, 103, 114, 97, 100, 101] :: r) = r := rfl
      have hF : RFORMS.find? (rmatch ([114, 117, 110] :: [117, 112, 103, 114, 97, 100, 101] :: r)) = some ⟨1, 3, [114, 117, 110, 32, 117, 112, 103, 114, 97, 100, 101], []⟩ := by simp [RFORMS, rmatch, hw]
      unfold rparseW parseW
      rw [hf, hF, hr]
      simp only [rform]
      by_cases hlen : r.length = 0
      · rcases r with _ | ⟨y1, r0⟩ <;> simp at hlen
        simp [parseF, stepF, initA, zAct, tOff, bOff, nOff, setT, setB, setN, numsR, textsR, subR, actR, zR]
      · simp [hlen, zR]
    · rcases l with _ | ⟨x0, _ | ⟨x1, r⟩⟩
      · simp [matchF] at hmf
      · simp [matchF] at hmf
      simp [matchF] at hmf
      obtain ⟨rfl, rfl, rfl⟩ := hmf
      have hw : rword ([114, 117, 110] :: [100, 111, 119, 110, 103, 114, 97, 100, 101] :: r) = [114, 117, 110, 32, 100, 111, 119, 110, 103, 114, 97, 100, 101] := rfl
      have hr : rrest ([114, 117, 110] :: [100, 111, 119, 110, 103, 114, 97, 100, 101] :: r) = r := rfl
      have hF : RFORMS.find? (rmatch ([114, 117, 110] :: [100, 111, 119, 110, 103, 114, 97, 100, 101] :: r)) = some ⟨1, 4, [114, 117, 110, 32, 100, 111, 119, 110, 103, 114, 97, 100, 101], [116, 116]⟩ := by simp [RFORMS, rmatch, hw]
      unfold rparseW parseW
      rw [hf, hF, hr]
      simp only [rform]
      by_cases hlen : r.length = 2
      · rcases r with _ | ⟨y1, _ | ⟨y2, _ | ⟨y3, r0⟩⟩⟩ <;> simp at hlen
        simp [parseF, stepF, initA, zAct, tOff, bOff, nOff, setT, setB, setN, numsR, textsR, subR, actR, zR]
      · simp [hlen, zR]
    · rcases l with _ | ⟨x0, _ | ⟨x1, r⟩⟩
      · simp [matchF] at hmf
      · simp [matchF] at hmf
      simp [matchF] at hmf
      obtain ⟨rfl, rfl, rfl⟩ := hmf
      have hw : rword ([114, 117, 110] :: [118, 101, 110, 100, 111, 114] :: r) = [114, 117, 110, 32, 118, 101, 110, 100, 111, 114] := rfl
      have hr : rrest ([114, 117, 110] :: [118, 101, 110, 100, 111, 114] :: r) = r := rfl
      have hF : RFORMS.find? (rmatch ([114, 117, 110] :: [118, 101, 110, 100, 111, 114] :: r)) = some ⟨1, 5, [114, 117, 110, 32, 118, 101, 110, 100, 111, 114], []⟩ := by simp [RFORMS, rmatch, hw]
      unfold rparseW parseW
      rw [hf, hF, hr]
      simp only [rform]
      by_cases hlen : r.length = 0
      · rcases r with _ | ⟨y1, r0⟩ <;> simp at hlen
        simp [parseF, stepF, initA, zAct, tOff, bOff, nOff, setT, setB, setN, numsR, textsR, subR, actR, zR]
      · simp [hlen, zR]
    · rcases l with _ | ⟨x0, r⟩
      · simp [matchF] at hmf
      simp [matchF] at hmf
      obtain ⟨rfl, rfl⟩ := hmf
      have hw : rword ([118, 101, 114, 105, 102, 121] :: r) = [118, 101, 114, 105, 102, 121] := rword_no (by decide) r
      have hr : rrest ([118, 101, 114, 105, 102, 121] :: r) = r := rrest_no (by decide) r
      have hF : RFORMS.find? (rmatch ([118, 101, 114, 105, 102, 121] :: r)) = some ⟨2, 0, [118, 101, 114, 105, 102, 121], []⟩ := by simp [RFORMS, rmatch, hw]
      unfold rparseW parseW
      rw [hf, hF, hr]
      simp only [rform]
      by_cases hlen : r.length = 0
      · rcases r with _ | ⟨y1, r0⟩ <;> simp at hlen
        simp [parseF, stepF, initA, zAct, tOff, bOff, nOff, setT, setB, setN, numsR, textsR, subR, actR, zR]
      · simp [hlen, zR]
    · rcases l with _ | ⟨x0, r⟩
      · simp [matchF] at hmf
      simp [matchF] at hmf
      obtain ⟨rfl, rfl⟩ := hmf
      have hw : rword ([111, 112, 101, 110] :: r) = [111, 112, 101, 110] := rword_no (by decide) r
      have hr : rrest ([111, 112, 101, 110] :: r) = r := rrest_no (by decide) r
      have hF : RFORMS.find? (rmatch ([111, 112, 101, 110] :: r)) = some ⟨3, 0, [111, 112, 101, 110], []⟩ := by simp [RFORMS, rmatch, hw]
      unfold rparseW parseW
      rw [hf, hF, hr]
      simp only [rform]
      by_cases hlen : r.length = 0
      · rcases r with _ | ⟨y1, r0⟩ <;> simp at hlen
        simp [parseF, stepF, initA, zAct, tOff, bOff, nOff, setT, setB, setN, numsR, textsR, subR, actR, zR]
      · simp [hlen, zR]
    · rcases l with _ | ⟨x0, r⟩
      · simp [matchF] at hmf
      simp [matchF] at hmf
      obtain ⟨rfl, rfl⟩ := hmf
      have hw : rword ([99, 114, 97, 115, 104] :: r) = [99, 114, 97, 115, 104] := rword_no (by decide) r
      have hr : rrest ([99, 114, 97, 115, 104] :: r) = r := rrest_no (by decide) r
      have hF : RFORMS.find? (rmatch ([99, 114, 97, 115, 104] :: r)) = some ⟨4, 0, [99, 114, 97, 115, 104], [110, 110]⟩ := by simp [RFORMS, rmatch, hw]
      unfold rparseW parseW
      rw [hf, hF, hr]
      simp only [rform]
      by_cases hlen : r.length = 2
      · rcases r with _ | ⟨y1, _ | ⟨y2, _ | ⟨y3, r0⟩⟩⟩ <;> simp at hlen
        rcases n1 : numP y1 with _ | v1
        · simp [parseF, stepF, initA, zAct, tOff, bOff, nOff, setT, setB, setN, numsR, textsR, subR, actR, zR, n1]
        rcases n2 : numP y2 with _ | v2
        · simp [parseF, stepF, initA, zAct, tOff, bOff, nOff, setT, setB, setN, numsR, textsR, subR, actR, zR, n1, n2]
        simp [parseF, stepF, initA, zAct, tOff, bOff, nOff, setT, setB, setN, numsR, textsR, subR, actR, zR, n1, n2]
      · simp [hlen, zR]
    · rcases l with _ | ⟨x0, r⟩
      · simp [matchF] at hmf
      simp [matchF] at hmf
      obtain ⟨rfl, rfl⟩ := hmf
      have hw : rword ([97, 114, 109] :: r) = [97, 114, 109] := rword_no (by decide) r
      have hr : rrest ([97, 114, 109] :: r) = r := rrest_no (by decide) r
      have hF : RFORMS.find? (rmatch ([97, 114, 109] :: r)) = some ⟨5, 0, [97, 114, 109], [110]⟩ := by simp [RFORMS, rmatch, hw]
      unfold rparseW parseW
      rw [hf, hF, hr]
      simp only [rform]
      by_cases hlen : r.length = 1
      · rcases r with _ | ⟨y1, _ | ⟨y2, r0⟩⟩ <;> simp at hlen
        rcases n1 : numP y1 with _ | v1
        · simp [parseF, stepF, initA, zAct, tOff, bOff, nOff, setT, setB, setN, numsR, textsR, subR, actR, zR, n1]
        simp [parseF, stepF, initA, zAct, tOff, bOff, nOff, setT, setB, setN, numsR, textsR, subR, actR, zR, n1]
      · simp [hlen, zR]
    · rcases l with _ | ⟨x0, r⟩
      · simp [matchF] at hmf
      simp [matchF] at hmf
      obtain ⟨rfl, rfl⟩ := hmf
      have hw : rword ([119, 114, 105, 116, 101] :: r) = [119, 114, 105, 116, 101] := rword_no (by decide) r
      have hr : rrest ([119, 114, 105, 116, 101] :: r) = r := rrest_no (by decide) r
      have hF : RFORMS.find? (rmatch ([119, 114, 105, 116, 101] :: r)) = some ⟨6, 0, [119, 114, 105, 116, 101], [116, 116]⟩ := by simp [RFORMS, rmatch, hw]
      unfold rparseW parseW
      rw [hf, hF, hr]
      simp only [rform]
      by_cases hlen : r.length = 2
      · rcases r with _ | ⟨y1, _ | ⟨y2, _ | ⟨y3, r0⟩⟩⟩ <;> simp at hlen
        simp [parseF, stepF, initA, zAct, tOff, bOff, nOff, setT, setB, setN, numsR, textsR, subR, actR, zR]
      · simp [hlen, zR]
    · rcases l with _ | ⟨x0, r⟩
      · simp [matchF] at hmf
      simp [matchF] at hmf
      obtain ⟨rfl, rfl⟩ := hmf
      have hw : rword ([100, 114, 111, 112] :: r) = [100, 114, 111, 112] := rword_no (by decide) r
      have hr : rrest ([100, 114, 111, 112] :: r) = r := rrest_no (by decide) r
      have hF : RFORMS.find? (rmatch ([100, 114, 111, 112] :: r)) = some ⟨7, 0, [100, 114, 111, 112], [116]⟩ := by simp [RFORMS, rmatch, hw]
      unfold rparseW parseW
      rw [hf, hF, hr]
      simp only [rform]
      by_cases hlen : r.length = 1
      · rcases r with _ | ⟨y1, _ | ⟨y2, r0⟩⟩ <;> simp at hlen
        simp [parseF, stepF, initA, zAct, tOff, bOff, nOff, setT, setB, setN, numsR, textsR, subR, actR, zR]
      · simp [hlen, zR]
    · rcases l with _ | ⟨x0, r⟩
      · simp [matchF] at hmf
      simp [matchF] at hmf
      obtain ⟨rfl, rfl⟩ := hmf
      have hw : rword ([102, 97, 117, 108, 116] :: r) = [102, 97, 117, 108, 116] := rword_no (by decide) r
      have hr : rrest ([102, 97, 117, 108, 116] :: r) = r := rrest_no (by decide) r
      have hF : RFORMS.find? (rmatch ([102, 97, 117, 108, 116] :: r)) = some ⟨8, 0, [102, 97, 117, 108, 116], [116, 110, 107, 110, 116]⟩ := by simp [RFORMS, rmatch, hw]
      unfold rparseW parseW
      rw [hf, hF, hr]
      simp only [rform]
      by_cases hlen : r.length = 5
      · rcases r with _ | ⟨y1, _ | ⟨y2, _ | ⟨y3, _ | ⟨y4, _ | ⟨y5, _ | ⟨y6, r0⟩⟩⟩⟩⟩⟩ <;> simp at hlen
        rcases n2 : numP y2 with _ | v2
        · simp [parseF, stepF, initA, zAct, tOff, bOff, nOff, setT, setB, setN, numsR, textsR, subR, actR, zR, n2]
        rcases n4 : numP y4 with _ | v4
        · simp [parseF, stepF, initA, zAct, tOff, bOff, nOff, setT, setB, setN, numsR, textsR, subR, actR, zR, n2, n4]
        by_cases hk : newK 0 y3 = 0
        · simp [parseF, stepF, initA, zAct, tOff, bOff, nOff, setT, setB, setN, numsR, textsR, subR, actR, zR, n2, n4, hk]
        simp [parseF, stepF, initA, zAct, tOff, bOff, nOff, setT, setB, setN, numsR, textsR, subR, actR, zR, n2, n4, hk]
      · simp [hlen, zR]
    · rcases l with _ | ⟨x0, r⟩
      · simp [matchF] at hmf
      simp [matchF] at hmf
      obtain ⟨rfl, rfl⟩ := hmf
      have hw : rword ([112, 97, 103, 101] :: r) = [112, 97, 103, 101] := rword_no (by decide) r
      have hr : rrest ([112, 97, 103, 101] :: r) = r := rrest_no (by decide) r
      have hF : RFORMS.find? (rmatch ([112, 97, 103, 101] :: r)) = some ⟨9, 0, [112, 97, 103, 101], [116, 116]⟩ := by simp [RFORMS, rmatch, hw]
      unfold rparseW parseW
      rw [hf, hF, hr]
      simp only [rform]
      by_cases hlen : r.length = 2
      · rcases r with _ | ⟨y1, _ | ⟨y2, _ | ⟨y3, r0⟩⟩⟩ <;> simp at hlen
        simp [parseF, stepF, initA, zAct, tOff, bOff, nOff, setT, setB, setN, numsR, textsR, subR, actR, zR]
      · simp [hlen, zR]
    · rcases l with _ | ⟨x0, r⟩
      · simp [matchF] at hmf
      simp [matchF] at hmf
      obtain ⟨rfl, rfl⟩ := hmf
      have hw : rword ([111, 102, 102, 108, 105, 110, 101] :: r) = [111, 102, 102, 108, 105, 110, 101] := rword_no (by decide) r
      have hr : rrest ([111, 102, 102, 108, 105, 110, 101] :: r) = r := rrest_no (by decide) r
      have hF : RFORMS.find? (rmatch ([111, 102, 102, 108, 105, 110, 101] :: r)) = some ⟨10, 0, [111, 102, 102, 108, 105, 110, 101], [110]⟩ := by simp [RFORMS, rmatch, hw]
      unfold rparseW parseW
      rw [hf, hF, hr]
      simp only [rform]
      by_cases hlen : r.length = 1
      · rcases r with _ | ⟨y1, _ | ⟨y2, r0⟩⟩ <;> simp at hlen
        rcases n1 : numP y1 with _ | v1
        · simp [parseF, stepF, initA, zAct, tOff, bOff, nOff, setT, setB, setN, numsR, textsR, subR, actR, zR, n1]
        simp [parseF, stepF, initA, zAct, tOff, bOff, nOff, setT, setB, setN, numsR, textsR, subR, actR, zR, n1]
      · simp [hlen, zR]
    · rcases l with _ | ⟨x0, r⟩
      · simp [matchF] at hmf
      simp [matchF] at hmf
      obtain ⟨rfl, rfl⟩ := hmf
      have hw : rword ([119, 111, 114, 107, 101, 114, 115] :: r) = [119, 111, 114, 107, 101, 114, 115] := rword_no (by decide) r
      have hr : rrest ([119, 111, 114, 107, 101, 114, 115] :: r) = r := rrest_no (by decide) r
      have hF : RFORMS.find? (rmatch ([119, 111, 114, 107, 101, 114, 115] :: r)) = some ⟨11, 0, [119, 111, 114, 107, 101, 114, 115], [110]⟩ := by simp [RFORMS, rmatch, hw]
      unfold rparseW parseW
      rw [hf, hF, hr]
      simp only [rform]
      by_cases hlen : r.length = 1
      · rcases r with _ | ⟨y1, _ | ⟨y2, r0⟩⟩ <;> simp at hlen
        rcases n1 : numP y1 with _ | v1
        · simp [parseF, stepF, initA, zAct, tOff, bOff, nOff, setT, setB, setN, numsR, textsR, subR, actR, zR, n1]
        simp [parseF, stepF, initA, zAct, tOff, bOff, nOff, setT, setB, setN, numsR, textsR, subR, actR, zR, n1]
      · simp [hlen, zR]
end Go.Proofs.YtbmnbhammganfaaDoor
