/-
  Plain: the line of an act is read as that act; a line that is read as an act is that act's line, but for blanks and quotes.
-/
import Derived.Test.YtlljjddgbilipaaGreatDoorTxFa
import Derived.Test.YtlljjddgbilipaaGreatDoorTxTbp
namespace Go.Proofs.YtlljjddgbilipaaGreatDoor
open Go.RowKit

set_option linter.unusedSimpArgs false

theorem findA_some : ∀ {l : List Form} {a : ActD} {f : Form}, findA l a = some f → f ∈ l ∧ matchA f a = true
  | [], _, _, h => by cases h
  | g :: r, a, f, h => by
    rw [findA] at h
    by_cases hm : matchA g a = true
    · rw [if_pos hm] at h
      cases h
      exact ⟨by simp, hm⟩
    · rw [if_neg hm] at h
      have := findA_some h
      exact ⟨by simp [this.1], this.2⟩
theorem findL_some : ∀ {l : List Form} {x : List (List UInt8)} {f : Form} {k : Nat}, findL l x = some (f, k) → f ∈ l ∧ matchF f x = some k
  | [], _, _, _, h => by cases h
  | g :: r, x, f, k, h => by
    rw [findL] at h
    cases hm : matchF g x with
    | some j =>
      rw [hm] at h
      cases h
      exact ⟨by simp, hm⟩
    | none =>
      rw [hm] at h
      have := findL_some h
      exact ⟨by simp [this.1], this.2⟩
theorem joinB_line : ∀ l : List (List UInt8), joinB (l.map writeW) = lineL l
  | [] => rfl
  | [x] => rfl
  | x :: y :: r => by
    have ih := joinB_line (y :: r)
    rw [List.map_cons, List.map_cons, joinB, lineL, ← List.map_cons, ih]
/-- the line of written words is read as these words -/
theorem parse_line {l : List (List UInt8)} {t : List UInt8} (h : limP (l.map writeW) = (t, 0)) : parseA t = parseW l := by
  unfold limP at h
  by_cases hl : 65536 < (joinB (l.map writeW)).length
  · rw [if_pos hl] at h
    cases h
  · rw [if_neg hl] at h
    have ht : t = joinB (l.map writeW) := (congrArg Prod.fst h).symm
    subst ht
    have hw := words_good hl (by rw [joinB_line]; exact wordsL_line l)
    unfold parseA
    rw [hw.1, hw.2, if_neg (by decide)]
theorem write_bare {x : List UInt8} (h : x ≠ []) (hb : x.all bareB = true) : writeW x = x := by unfold writeW; rw [if_pos ⟨h, hb⟩]
theorem numP_itoa {n : Int} (h : inN n = true) : numP (Lib.itoa n) = some n := numP_iff.2 ⟨rfl, of_decide_eq_true h⟩
theorem kind_word {k : Int} (h : kindW k ≠ []) : newK 0 (kindW k) = k ∧ k ≠ 0 ∧ writeW (kindW k) = kindW k := by
  unfold kindW at h ⊢
  cases hf : KT.find? (fun p => decide (p.1 = k)) with
  | none => rw [hf] at h; exact absurd rfl h
  | some p =>
    have h1 := List.mem_of_find?_eq_some hf
    have h2 : p.1 = k := by have := List.find?_some hf; simpa using this
    subst h2
    have hall : ∀ q ∈ KT, newK 0 q.2 = q.1 ∧ q.1 ≠ 0 ∧ writeW q.2 = q.2 := by decide +kernel
    exact hall p h1
theorem word_kind {x : List UInt8} (h : newK 0 x ≠ 0) : kindW (newK 0 x) = x ∧ kindW (newK 0 x) ≠ [] := by
  unfold newK at h ⊢
  cases hf : KT.find? (fun p => decide (p.2 = x)) with
  | none => rw [hf] at h; exact absurd rfl h
  | some p =>
    have h1 := List.mem_of_find?_eq_some hf
    have h2 : p.2 = x := by have := List.find?_some hf; simpa using this
    subst h2
    have hall : ∀ q ∈ KT, kindW q.1 = q.2 ∧ kindW q.1 ≠ [] := by decide +kernel
    exact hall p h1
theorem dec_bare (u : Nat) : Lib.decDigits u ≠ [] ∧ (Lib.decDigits u).all bareB = true := by
  obtain ⟨k1, k2, k3, k4⟩ := dec_all u
  have hd : ∀ c : UInt8, 48 ≤ c.toNat → c.toNat ≤ 57 → bareB c = true := by
    refine forall_u8 ?_
    decide +kernel
  exact ⟨k3, List.all_eq_true.2 fun c hc => by
    have := List.all_eq_true.1 k1 c hc
    simp only [isD, decide_eq_true_eq, Bool.and_eq_true] at this
    exact hd c (by omega) (by omega)⟩
theorem itoa_bare (n : Int) : writeW (Lib.itoa n) = Lib.itoa n := by
  by_cases hn : 0 ≤ n
  · rw [itoa_pos hn]
    exact write_bare (dec_bare _).1 (dec_bare _).2
  · rw [itoa_minus (by omega)]
    refine write_bare (by simp) ?_
    rw [List.all_cons, (dec_bare _).2]
    decide
theorem wl0 : writeW [114, 117, 110] = [114, 117, 110] := by decide
theorem wl1 : writeW [103, 101, 116] = [103, 101, 116] := by decide
theorem wl2 : writeW [116, 105, 100, 121] = [116, 105, 100, 121] := by decide
theorem wl3 : writeW [117, 112, 103, 114, 97, 100, 101] = [117, 112, 103, 114, 97, 100, 101] := by decide
theorem wl4 : writeW [100, 111, 119, 110, 103, 114, 97, 100, 101] = [100, 111, 119, 110, 103, 114, 97, 100, 101] := by decide
theorem wl5 : writeW [118, 101, 110, 100, 111, 114] = [118, 101, 110, 100, 111, 114] := by decide
theorem wl6 : writeW [118, 101, 114, 105, 102, 121] = [118, 101, 114, 105, 102, 121] := by decide
theorem wl7 : writeW [111, 112, 101, 110] = [111, 112, 101, 110] := by decide
theorem wl8 : writeW [99, 114, 97, 115, 104] = [99, 114, 97, 115, 104] := by decide
theorem wl9 : writeW [97, 114, 109] = [97, 114, 109] := by decide
theorem wl10 : writeW [119, 114, 105, 116, 101] = [119, 114, 105, 116, 101] := by decide
theorem wl11 : writeW [100, 114, 111, 112] = [100, 114, 111, 112] := by decide
theorem wl12 : writeW [102, 97, 117, 108, 116] = [102, 97, 117, 108, 116] := by decide
theorem wl13 : writeW [112, 97, 103, 101] = [112, 97, 103, 101] := by decide
theorem wl14 : writeW [111, 102, 102, 108, 105, 110, 101] = [111, 102, 102, 108, 105, 110, 101] := by decide
theorem wl15 : writeW [119, 111, 114, 107, 101, 114, 115] = [119, 111, 114, 107, 101, 114, 115] := by decide
/-- an act and its line's words, form by form -/
theorem back1 {a : ActD} {t : List UInt8} (h : formatA a = (t, 0)) : parseA t = (a, 0) := by
  unfold formatA at h
  cases hf : findA FORMS a with
  | none => rw [hf] at h; cases h
  | some f =>
    rw [hf] at h
    obtain ⟨hm, hk⟩ := findA_some hf
    simp only at h
    clear hf
    unfold formatF at h
    split at h
    · cases h
    rename_i h8
    split at h
    · cases h
    rename_i hz
    split at h
    · cases h
    rename_i ho
    rw [Bool.not_eq_false] at hz ho
    obtain ⟨kind, ck, path, ver, name, data, n, m, url, att, fk, fn, fdata⟩ := a
    simp only [FORMS, List.mem_cons, List.not_mem_nil, or_false] at hm
    rcases hm with rfl | rfl | rfl | rfl | rfl | rfl | rfl | rfl | rfl | rfl | rfl | rfl | rfl | rfl | rfl
    all_goals simp [matchA, less, seconds, saidF, saidStep, tOff, bOff, nOff, getT, getB, getN, setT, setB, setN, zeroA] at hk hz ho h h8
    · obtain ⟨rfl, rfl⟩ := hk
      rw [parse_line (l := [[114, 117, 110], [103, 101, 116], path, ver]) (t := t) (by rw [← h]; simp only [List.map_cons, List.map_nil, itoa_bare, wl0, wl1, wl2, wl3, wl4, wl5, wl6, wl7, wl8, wl9, wl10, wl11, wl12, wl13, wl14, wl15])]
      simp [parseW, findL, FORMS, matchF, parseF, stepF, initA, zAct, tOff, bOff, nOff, setT, setB, setN]
      simp [hz]
    · obtain ⟨rfl, rfl⟩ := hk
      rw [parse_line (l := [[114, 117, 110], [116, 105, 100, 121]]) (t := t) (by rw [← h]; simp only [List.map_cons, List.map_nil, itoa_bare, wl0, wl1, wl2, wl3, wl4, wl5, wl6, wl7, wl8, wl9, wl10, wl11, wl12, wl13, wl14, wl15])]
      simp [parseW, findL, FORMS, matchF, parseF, stepF, initA, zAct, tOff, bOff, nOff, setT, setB, setN]
      simp [hz]
    · obtain ⟨rfl, rfl⟩ := hk
      rw [parse_line (l := [[114, 117, 110], [117, 112, 103, 114, 97, 100, 101]]) (t := t) (by rw [← h]; simp only [List.map_cons, List.map_nil, itoa_bare, wl0, wl1, wl2, wl3, wl4, wl5, wl6, wl7, wl8, wl9, wl10, wl11, wl12, wl13, wl14, wl15])]
      simp [parseW, findL, FORMS, matchF, parseF, stepF, initA, zAct, tOff, bOff, nOff, setT, setB, setN]
      simp [hz]
    · obtain ⟨rfl, rfl⟩ := hk
      rw [parse_line (l := [[114, 117, 110], [100, 111, 119, 110, 103, 114, 97, 100, 101], path, ver]) (t := t) (by rw [← h]; simp only [List.map_cons, List.map_nil, itoa_bare, wl0, wl1, wl2, wl3, wl4, wl5, wl6, wl7, wl8, wl9, wl10, wl11, wl12, wl13, wl14, wl15])]
      simp [parseW, findL, FORMS, matchF, parseF, stepF, initA, zAct, tOff, bOff, nOff, setT, setB, setN]
      simp [hz]
    · obtain ⟨rfl, rfl⟩ := hk
      rw [parse_line (l := [[114, 117, 110], [118, 101, 110, 100, 111, 114]]) (t := t) (by rw [← h]; simp only [List.map_cons, List.map_nil, itoa_bare, wl0, wl1, wl2, wl3, wl4, wl5, wl6, wl7, wl8, wl9, wl10, wl11, wl12, wl13, wl14, wl15])]
      simp [parseW, findL, FORMS, matchF, parseF, stepF, initA, zAct, tOff, bOff, nOff, setT, setB, setN]
      simp [hz]
    · obtain rfl := hk
      rw [parse_line (l := [[118, 101, 114, 105, 102, 121]]) (t := t) (by rw [← h]; simp only [List.map_cons, List.map_nil, itoa_bare, wl0, wl1, wl2, wl3, wl4, wl5, wl6, wl7, wl8, wl9, wl10, wl11, wl12, wl13, wl14, wl15])]
      simp [parseW, findL, FORMS, matchF, parseF, stepF, initA, zAct, tOff, bOff, nOff, setT, setB, setN]
      simp [hz]
    · obtain rfl := hk
      rw [parse_line (l := [[111, 112, 101, 110]]) (t := t) (by rw [← h]; simp only [List.map_cons, List.map_nil, itoa_bare, wl0, wl1, wl2, wl3, wl4, wl5, wl6, wl7, wl8, wl9, wl10, wl11, wl12, wl13, wl14, wl15])]
      simp [parseW, findL, FORMS, matchF, parseF, stepF, initA, zAct, tOff, bOff, nOff, setT, setB, setN]
      simp [hz]
    · obtain rfl := hk
      rw [parse_line (l := [[99, 114, 97, 115, 104], Lib.itoa n, Lib.itoa m]) (t := t) (by rw [← h]; simp only [List.map_cons, List.map_nil, itoa_bare, wl0, wl1, wl2, wl3, wl4, wl5, wl6, wl7, wl8, wl9, wl10, wl11, wl12, wl13, wl14, wl15])]
      have i1 := numP_itoa ho.1
      have i2 := numP_itoa ho.2
      simp [parseW, findL, FORMS, matchF, parseF, stepF, initA, zAct, tOff, bOff, nOff, setT, setB, setN, i1, i2]
      simp [hz]
    · obtain rfl := hk
      rw [parse_line (l := [[97, 114, 109], Lib.itoa n]) (t := t) (by rw [← h]; simp only [List.map_cons, List.map_nil, itoa_bare, wl0, wl1, wl2, wl3, wl4, wl5, wl6, wl7, wl8, wl9, wl10, wl11, wl12, wl13, wl14, wl15])]
      have i1 := numP_itoa ho
      simp [parseW, findL, FORMS, matchF, parseF, stepF, initA, zAct, tOff, bOff, nOff, setT, setB, setN, i1]
      simp [hz]
    · obtain rfl := hk
      rw [parse_line (l := [[119, 114, 105, 116, 101], name, data]) (t := t) (by rw [← h]; simp only [List.map_cons, List.map_nil, itoa_bare, wl0, wl1, wl2, wl3, wl4, wl5, wl6, wl7, wl8, wl9, wl10, wl11, wl12, wl13, wl14, wl15])]
      simp [parseW, findL, FORMS, matchF, parseF, stepF, initA, zAct, tOff, bOff, nOff, setT, setB, setN]
      simp [hz]
    · obtain rfl := hk
      rw [parse_line (l := [[100, 114, 111, 112], name]) (t := t) (by rw [← h]; simp only [List.map_cons, List.map_nil, itoa_bare, wl0, wl1, wl2, wl3, wl4, wl5, wl6, wl7, wl8, wl9, wl10, wl11, wl12, wl13, wl14, wl15])]
      simp [parseW, findL, FORMS, matchF, parseF, stepF, initA, zAct, tOff, bOff, nOff, setT, setB, setN]
      simp [hz]
    · obtain rfl := hk
      obtain ⟨k1, k2, k3⟩ := kind_word h8
      rw [parse_line (l := [[102, 97, 117, 108, 116], url, Lib.itoa att, kindW fk, Lib.itoa fn, fdata]) (t := t) (by rw [← h]; simp only [List.map_cons, List.map_nil, itoa_bare, wl0, wl1, wl2, wl3, wl4, wl5, wl6, wl7, wl8, wl9, wl10, wl11, wl12, wl13, wl14, wl15, k3])]
      have i1 := numP_itoa ho.1
      have i2 := numP_itoa ho.2
      simp [parseW, findL, FORMS, matchF, parseF, stepF, initA, zAct, tOff, bOff, nOff, setT, setB, setN, i1, i2, k1, k2]
      simp [hz]
    · obtain rfl := hk
      rw [parse_line (l := [[112, 97, 103, 101], name, data]) (t := t) (by rw [← h]; simp only [List.map_cons, List.map_nil, itoa_bare, wl0, wl1, wl2, wl3, wl4, wl5, wl6, wl7, wl8, wl9, wl10, wl11, wl12, wl13, wl14, wl15])]
      simp [parseW, findL, FORMS, matchF, parseF, stepF, initA, zAct, tOff, bOff, nOff, setT, setB, setN]
      simp [hz]
    · obtain rfl := hk
      rw [parse_line (l := [[111, 102, 102, 108, 105, 110, 101], Lib.itoa n]) (t := t) (by rw [← h]; simp only [List.map_cons, List.map_nil, itoa_bare, wl0, wl1, wl2, wl3, wl4, wl5, wl6, wl7, wl8, wl9, wl10, wl11, wl12, wl13, wl14, wl15])]
      have i1 := numP_itoa ho
      simp [parseW, findL, FORMS, matchF, parseF, stepF, initA, zAct, tOff, bOff, nOff, setT, setB, setN, i1]
      simp [hz]
    · obtain rfl := hk
      rw [parse_line (l := [[119, 111, 114, 107, 101, 114, 115], Lib.itoa n]) (t := t) (by rw [← h]; simp only [List.map_cons, List.map_nil, itoa_bare, wl0, wl1, wl2, wl3, wl4, wl5, wl6, wl7, wl8, wl9, wl10, wl11, wl12, wl13, wl14, wl15])]
      have i1 := numP_itoa ho
      simp [parseW, findL, FORMS, matchF, parseF, stepF, initA, zAct, tOff, bOff, nOff, setT, setB, setN, i1]
      simp [hz]
/-- an act of a line is written as the line's words -/
theorem back2 {s : List UInt8} {c : ActD} (h : parseA s = (c, 0)) : formatA c = limP ((wordsOf s).map writeW) := by
  unfold parseA at h
  split at h
  · rename_i he
    exact absurd (congrArg Prod.snd h) he
  generalize wordsOf s = l at h ⊢
  unfold parseW at h
  split at h
  · cases h
  rename_i f k hf
  split at h
  · cases h
  rename_i hlen
  rw [Decidable.not_not] at hlen
  split at h
  · cases h
  rename_i a syn hp
  split at h
  · cases h
  rename_i hsyn
  rw [Bool.not_eq_true] at hsyn
  subst hsyn
  obtain rfl : a = c := congrArg Prod.fst h
  obtain ⟨hm, hmf⟩ := findL_some hf
  clear h hf
  simp only [FORMS, List.mem_cons, List.not_mem_nil, or_false] at hm
  rcases hm with rfl | rfl | rfl | rfl | rfl | rfl | rfl | rfl | rfl | rfl | rfl | rfl | rfl | rfl | rfl
  · rcases l with _ | ⟨x0, _ | ⟨x1, r⟩⟩
    · simp [matchF] at hmf
    · simp [matchF] at hmf
    simp [matchF] at hmf
    obtain ⟨rfl, rfl, rfl⟩ := hmf
    rcases r with _ | ⟨y1, _ | ⟨y2, _ | ⟨y3, r0⟩⟩⟩ <;> simp at hlen
    simp [parseF, stepF, initA, zAct, tOff, bOff, nOff, setT, setB, setN] at hp
    subst hp
    simp [formatA, findA, FORMS, matchA, formatF, less, seconds, saidF, saidStep, tOff, bOff, nOff, getT, getB, getN, setT, setB, setN, zeroA, itoa_bare, wl0, wl1, wl2, wl3, wl4, wl5, wl6, wl7, wl8, wl9, wl10, wl11, wl12, wl13, wl14, wl15]
  · rcases l with _ | ⟨x0, _ | ⟨x1, r⟩⟩
    · simp [matchF] at hmf
    · simp [matchF] at hmf
    simp [matchF] at hmf
    obtain ⟨rfl, rfl, rfl⟩ := hmf
    rcases r with _ | ⟨y1, r0⟩ <;> simp at hlen
    simp [parseF, stepF, initA, zAct, tOff, bOff, nOff, setT, setB, setN] at hp
    subst hp
    simp [formatA, findA, FORMS, matchA, formatF, less, seconds, saidF, saidStep, tOff, bOff, nOff, getT, getB, getN, setT, setB, setN, zeroA, itoa_bare, wl0, wl1, wl2, wl3, wl4, wl5, wl6, wl7, wl8, wl9, wl10, wl11, wl12, wl13, wl14, wl15]
  · rcases l with _ | ⟨x0, _ | ⟨x1, r⟩⟩
    · simp [matchF] at hmf
    · simp [matchF] at hmf
    simp [matchF] at hmf
    obtain ⟨rfl, rfl, rfl⟩ := hmf
    rcases r with _ | ⟨y1, r0⟩ <;> simp at hlen
    simp [parseF, stepF, initA, zAct, tOff, bOff, nOff, setT, setB, setN] at hp
    subst hp
    simp [formatA, findA, FORMS, matchA, formatF, less, seconds, saidF, saidStep, tOff, bOff, nOff, getT, getB, getN, setT, setB, setN, zeroA, itoa_bare, wl0, wl1, wl2, wl3, wl4, wl5, wl6, wl7, wl8, wl9, wl10, wl11, wl12, wl13, wl14, wl15]
  · rcases l with _ | ⟨x0, _ | ⟨x1, r⟩⟩
    · simp [matchF] at hmf
    · simp [matchF] at hmf
    simp [matchF] at hmf
    obtain ⟨rfl, rfl, rfl⟩ := hmf
    rcases r with _ | ⟨y1, _ | ⟨y2, _ | ⟨y3, r0⟩⟩⟩ <;> simp at hlen
    simp [parseF, stepF, initA, zAct, tOff, bOff, nOff, setT, setB, setN] at hp
    subst hp
    simp [formatA, findA, FORMS, matchA, formatF, less, seconds, saidF, saidStep, tOff, bOff, nOff, getT, getB, getN, setT, setB, setN, zeroA, itoa_bare, wl0, wl1, wl2, wl3, wl4, wl5, wl6, wl7, wl8, wl9, wl10, wl11, wl12, wl13, wl14, wl15]
  · rcases l with _ | ⟨x0, _ | ⟨x1, r⟩⟩
    · simp [matchF] at hmf
    · simp [matchF] at hmf
    simp [matchF] at hmf
    obtain ⟨rfl, rfl, rfl⟩ := hmf
    rcases r with _ | ⟨y1, r0⟩ <;> simp at hlen
    simp [parseF, stepF, initA, zAct, tOff, bOff, nOff, setT, setB, setN] at hp
    subst hp
    simp [formatA, findA, FORMS, matchA, formatF, less, seconds, saidF, saidStep, tOff, bOff, nOff, getT, getB, getN, setT, setB, setN, zeroA, itoa_bare, wl0, wl1, wl2, wl3, wl4, wl5, wl6, wl7, wl8, wl9, wl10, wl11, wl12, wl13, wl14, wl15]
  · rcases l with _ | ⟨x0, r⟩
    · simp [matchF] at hmf
    simp [matchF] at hmf
    obtain ⟨rfl, rfl⟩ := hmf
    rcases r with _ | ⟨y1, r0⟩ <;> simp at hlen
    simp [parseF, stepF, initA, zAct, tOff, bOff, nOff, setT, setB, setN] at hp
    subst hp
    simp [formatA, findA, FORMS, matchA, formatF, less, seconds, saidF, saidStep, tOff, bOff, nOff, getT, getB, getN, setT, setB, setN, zeroA, itoa_bare, wl0, wl1, wl2, wl3, wl4, wl5, wl6, wl7, wl8, wl9, wl10, wl11, wl12, wl13, wl14, wl15]
  · rcases l with _ | ⟨x0, r⟩
    · simp [matchF] at hmf
    simp [matchF] at hmf
    obtain ⟨rfl, rfl⟩ := hmf
    rcases r with _ | ⟨y1, r0⟩ <;> simp at hlen
    simp [parseF, stepF, initA, zAct, tOff, bOff, nOff, setT, setB, setN] at hp
    subst hp
    simp [formatA, findA, FORMS, matchA, formatF, less, seconds, saidF, saidStep, tOff, bOff, nOff, getT, getB, getN, setT, setB, setN, zeroA, itoa_bare, wl0, wl1, wl2, wl3, wl4, wl5, wl6, wl7, wl8, wl9, wl10, wl11, wl12, wl13, wl14, wl15]
  · rcases l with _ | ⟨x0, r⟩
    · simp [matchF] at hmf
    simp [matchF] at hmf
    obtain ⟨rfl, rfl⟩ := hmf
    rcases r with _ | ⟨y1, _ | ⟨y2, _ | ⟨y3, r0⟩⟩⟩ <;> simp at hlen
    rcases n1 : numP y1 with _ | v1
    · simp [parseF, stepF, initA, zAct, tOff, bOff, nOff, setT, setB, setN, n1] at hp
    rcases n2 : numP y2 with _ | v2
    · simp [parseF, stepF, initA, zAct, tOff, bOff, nOff, setT, setB, setN, n1, n2] at hp
    simp [parseF, stepF, initA, zAct, tOff, bOff, nOff, setT, setB, setN, n1, n2] at hp
    subst hp
    obtain ⟨rfl, a1, b1⟩ := numP_iff.1 n1
    have q1 : inN v1 = true := decide_eq_true ⟨a1, b1⟩
    obtain ⟨rfl, a2, b2⟩ := numP_iff.1 n2
    have q2 : inN v2 = true := decide_eq_true ⟨a2, b2⟩
    simp [formatA, findA, FORMS, matchA, formatF, less, seconds, saidF, saidStep, tOff, bOff, nOff, getT, getB, getN, setT, setB, setN, zeroA, itoa_bare, wl0, wl1, wl2, wl3, wl4, wl5, wl6, wl7, wl8, wl9, wl10, wl11, wl12, wl13, wl14, wl15, q1, q2]
  · rcases l with _ | ⟨x0, r⟩
    · simp [matchF] at hmf
    simp [matchF] at hmf
    obtain ⟨rfl, rfl⟩ := hmf
    rcases r with _ | ⟨y1, _ | ⟨y2, r0⟩⟩ <;> simp at hlen
    rcases n1 : numP y1 with _ | v1
    · simp [parseF, stepF, initA, zAct, tOff, bOff, nOff, setT, setB, setN, n1] at hp
    simp [parseF, stepF, initA, zAct, tOff, bOff, nOff, setT, setB, setN, n1] at hp
    subst hp
    obtain ⟨rfl, a1, b1⟩ := numP_iff.1 n1
    have q1 : inN v1 = true := decide_eq_true ⟨a1, b1⟩
    simp [formatA, findA, FORMS, matchA, formatF, less, seconds, saidF, saidStep, tOff, bOff, nOff, getT, getB, getN, setT, setB, setN, zeroA, itoa_bare, wl0, wl1, wl2, wl3, wl4, wl5, wl6, wl7, wl8, wl9, wl10, wl11, wl12, wl13, wl14, wl15, q1]
  · rcases l with _ | ⟨x0, r⟩
    · simp [matchF] at hmf
    simp [matchF] at hmf
    obtain ⟨rfl, rfl⟩ := hmf
    rcases r with _ | ⟨y1, _ | ⟨y2, _ | ⟨y3, r0⟩⟩⟩ <;> simp at hlen
    simp [parseF, stepF, initA, zAct, tOff, bOff, nOff, setT, setB, setN] at hp
    subst hp
    simp [formatA, findA, FORMS, matchA, formatF, less, seconds, saidF, saidStep, tOff, bOff, nOff, getT, getB, getN, setT, setB, setN, zeroA, itoa_bare, wl0, wl1, wl2, wl3, wl4, wl5, wl6, wl7, wl8, wl9, wl10, wl11, wl12, wl13, wl14, wl15]
  · rcases l with _ | ⟨x0, r⟩
    · simp [matchF] at hmf
    simp [matchF] at hmf
    obtain ⟨rfl, rfl⟩ := hmf
    rcases r with _ | ⟨y1, _ | ⟨y2, r0⟩⟩ <;> simp at hlen
    simp [parseF, stepF, initA, zAct, tOff, bOff, nOff, setT, setB, setN] at hp
    subst hp
    simp [formatA, findA, FORMS, matchA, formatF, less, seconds, saidF, saidStep, tOff, bOff, nOff, getT, getB, getN, setT, setB, setN, zeroA, itoa_bare, wl0, wl1, wl2, wl3, wl4, wl5, wl6, wl7, wl8, wl9, wl10, wl11, wl12, wl13, wl14, wl15]
  · rcases l with _ | ⟨x0, r⟩
    · simp [matchF] at hmf
    simp [matchF] at hmf
    obtain ⟨rfl, rfl⟩ := hmf
    rcases r with _ | ⟨y1, _ | ⟨y2, _ | ⟨y3, _ | ⟨y4, _ | ⟨y5, _ | ⟨y6, r0⟩⟩⟩⟩⟩⟩ <;> simp at hlen
    rcases n2 : numP y2 with _ | v2
    · simp [parseF, stepF, initA, zAct, tOff, bOff, nOff, setT, setB, setN, n2] at hp
    rcases n4 : numP y4 with _ | v4
    · simp [parseF, stepF, initA, zAct, tOff, bOff, nOff, setT, setB, setN, n2, n4] at hp
    simp [parseF, stepF, initA, zAct, tOff, bOff, nOff, setT, setB, setN, n2, n4] at hp
    obtain ⟨rfl, hk⟩ := hp
    obtain ⟨w1, w2⟩ := word_kind hk
    have w3 := (kind_word w2).2.2
    rw [w1] at w2 w3
    obtain ⟨rfl, a2, b2⟩ := numP_iff.1 n2
    have q2 : inN v2 = true := decide_eq_true ⟨a2, b2⟩
    obtain ⟨rfl, a4, b4⟩ := numP_iff.1 n4
    have q4 : inN v4 = true := decide_eq_true ⟨a4, b4⟩
    simp [formatA, findA, FORMS, matchA, formatF, less, seconds, saidF, saidStep, tOff, bOff, nOff, getT, getB, getN, setT, setB, setN, zeroA, itoa_bare, wl0, wl1, wl2, wl3, wl4, wl5, wl6, wl7, wl8, wl9, wl10, wl11, wl12, wl13, wl14, wl15, w1, w2, w3, q2, q4]
  · rcases l with _ | ⟨x0, r⟩
    · simp [matchF] at hmf
    simp [matchF] at hmf
    obtain ⟨rfl, rfl⟩ := hmf
    rcases r with _ | ⟨y1, _ | ⟨y2, _ | ⟨y3, r0⟩⟩⟩ <;> simp at hlen
    simp [parseF, stepF, initA, zAct, tOff, bOff, nOff, setT, setB, setN] at hp
    subst hp
    simp [formatA, findA, FORMS, matchA, formatF, less, seconds, saidF, saidStep, tOff, bOff, nOff, getT, getB, getN, setT, setB, setN, zeroA, itoa_bare, wl0, wl1, wl2, wl3, wl4, wl5, wl6, wl7, wl8, wl9, wl10, wl11, wl12, wl13, wl14, wl15]
  · rcases l with _ | ⟨x0, r⟩
    · simp [matchF] at hmf
    simp [matchF] at hmf
    obtain ⟨rfl, rfl⟩ := hmf
    rcases r with _ | ⟨y1, _ | ⟨y2, r0⟩⟩ <;> simp at hlen
    rcases n1 : numP y1 with _ | v1
    · simp [parseF, stepF, initA, zAct, tOff, bOff, nOff, setT, setB, setN, n1] at hp
    simp [parseF, stepF, initA, zAct, tOff, bOff, nOff, setT, setB, setN, n1] at hp
    subst hp
    obtain ⟨rfl, a1, b1⟩ := numP_iff.1 n1
    have q1 : inN v1 = true := decide_eq_true ⟨a1, b1⟩
    simp [formatA, findA, FORMS, matchA, formatF, less, seconds, saidF, saidStep, tOff, bOff, nOff, getT, getB, getN, setT, setB, setN, zeroA, itoa_bare, wl0, wl1, wl2, wl3, wl4, wl5, wl6, wl7, wl8, wl9, wl10, wl11, wl12, wl13, wl14, wl15, q1]
  · rcases l with _ | ⟨x0, r⟩
    · simp [matchF] at hmf
    simp [matchF] at hmf
    obtain ⟨rfl, rfl⟩ := hmf
    rcases r with _ | ⟨y1, _ | ⟨y2, r0⟩⟩ <;> simp at hlen
    rcases n1 : numP y1 with _ | v1
    · simp [parseF, stepF, initA, zAct, tOff, bOff, nOff, setT, setB, setN, n1] at hp
    simp [parseF, stepF, initA, zAct, tOff, bOff, nOff, setT, setB, setN, n1] at hp
    subst hp
    obtain ⟨rfl, a1, b1⟩ := numP_iff.1 n1
    have q1 : inN v1 = true := decide_eq_true ⟨a1, b1⟩
    simp [formatA, findA, FORMS, matchA, formatF, less, seconds, saidF, saidStep, tOff, bOff, nOff, getT, getB, getN, setT, setB, setN, zeroA, itoa_bare, wl0, wl1, wl2, wl3, wl4, wl5, wl6, wl7, wl8, wl9, wl10, wl11, wl12, wl13, wl14, wl15, q1]
end Go.Proofs.YtlljjddgbilipaaGreatDoor
