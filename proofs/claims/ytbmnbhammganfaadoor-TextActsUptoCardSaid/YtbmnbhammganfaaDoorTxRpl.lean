/-
  Plain: the reference's ParseAct, step by step.
-/
import Derived.Test.YtbmnbhammganfaaDoorH5
import Derived.Test.YtbmnbhammganfaaDoorTxCut
import Derived.Test.YtbmnbhammganfaaDoorTxAr
import Derived.Test.YtbmnbhammganfaaDoorH6
namespace Go.Proofs.YtbmnbhammganfaaDoor
open Go.RowKit Go.Maps

set_option linter.unusedSimpArgs false

attribute [local go_sem] lt1 lt2 lt3 lt4 lt5 lt6

def rparse (s : List UInt8) : RActD × Int := if wordsErr s ≠ 0 then (zR, wordsErr s) else rparseW (wordsOf s)
theorem rparse_err {s : List UInt8} (h : wordsErr s ≠ 0) : rparse s = (zR, wordsErr s) := by unfold rparse; rw [if_pos h]
theorem rparse_ok {s : List UInt8} (h : wordsErr s = 0) : rparse s = rparseW (wordsOf s) := by unfold rparse; rw [if_neg (by rw [h]; decide)]
theorem rfind_at {l : List (List UInt8)} {i : Nat} {F : RForm} (hi : RFORMS[i]? = some F) (hno : ∀ G ∈ RFORMS.take i, rmatch l G = false) (hm : rmatch l F = true) : rparseW l = rform F (rrest l) := by
  have h1 : RFORMS.find? (rmatch l) = some F := by
    have : RFORMS = RFORMS.take i ++ (F :: RFORMS.drop (i + 1)) := by
      obtain ⟨hl, he⟩ := List.getElem?_eq_some_iff.1 hi
      rw [← he, ← List.drop_eq_getElem_cons hl, List.take_append_drop]
    rw [this, List.find?_append, List.find?_eq_none.2 (fun G hG => by rw [hno G hG]; decide), List.find?_cons, hm]
    rfl
  unfold rparseW
  rw [h1]
theorem rfind_none {l : List (List UInt8)} (hno : ∀ G ∈ RFORMS, rmatch l G = false) : rparseW l = (zR, 7) := by
  unfold rparseW
  rw [List.find?_eq_none.2 (fun G hG => by rw [hno G hG]; decide)]
theorem rforms_five {F : RForm} (h : F ∈ RFORMS) : F.says.length ≤ 5 := by
  have : ∀ F ∈ RFORMS, F.says.length ≤ 5 := by decide +kernel
  exact this F h
theorem rforms_says {F : RForm} (h : F ∈ RFORMS) : ∀ c ∈ F.says, c = 110 ∨ c = 116 ∨ c = 107 := by
  have : ∀ F ∈ RFORMS, ∀ c ∈ F.says, c = 110 ∨ c = 116 ∨ c = 107 := by decide +kernel
  exact this F h
theorem rforms_k {F : RForm} (h : F ∈ RFORMS) : ∀ k : Nat, F.says[k]? = some 107 → F.kind = 8 ∧ F.sub = 0 ∧ F.says = [116, 110, 107, 110, 116] ∧ k = 2 := by
  intro k hk
  have h5 := rforms_five h
  have hl : k < 5 := by
    obtain ⟨hl, _⟩ := List.getElem?_eq_some_iff.1 hk
    omega
  have hall : ∀ F ∈ RFORMS, ∀ k : Fin 5, F.says[k.val]? = some 107 → F.kind = 8 ∧ F.sub = 0 ∧ F.says = [116, 110, 107, 110, 116] ∧ k.val = 2 := by decide +kernel
  exact hall F h ⟨k, hl⟩ hk
theorem rforms_8 {F : RForm} (h : F ∈ RFORMS) (h8 : F.kind = 8) : F.says = [116, 110, 107, 110, 116] := by
  have hall : ∀ F ∈ RFORMS, F.kind = 8 → F.says = [116, 110, 107, 110, 116] := by decide +kernel
  exact hall F h h8
/-! ### the numbers -/
theorem numsR_n {c : UInt8} {cs : List UInt8} {x : List UInt8} {xs : List (List UInt8)} (hc : c = 110) : numsR (c :: cs) (x :: xs) = match numP x with
    | none => none
    | some n => (numsR cs xs).map (n :: ·) := by
  rw [numsR, if_pos hc]
  cases numP x <;> rfl
theorem numsR_o {c : UInt8} {cs : List UInt8} {x : List UInt8} {xs : List (List UInt8)} (hc : ¬ c = 110) : numsR (c :: cs) (x :: xs) = numsR cs xs := by rw [numsR, if_neg hc]
/-- where the numbers' loop stands -/
def NumAt (cs : List UInt8) (xs : List (List UInt8)) (k : Nat) (acc : List Int) : Prop := numsR cs xs = (numsR (cs.drop k) (xs.drop k)).map (acc ++ ·)
theorem NumAt.zero (cs : List UInt8) (xs : List (List UInt8)) : NumAt cs xs 0 [] := by unfold NumAt; simp
theorem at_cons {α : Type} {l : List α} {k : Nat} {x : α} (h : l[k]? = some x) : l.drop k = x :: l.drop (k + 1) := by
  obtain ⟨hl, he⟩ := List.getElem?_eq_some_iff.1 h
  rw [← he, List.drop_eq_getElem_cons hl]
theorem NumAt.skip {cs : List UInt8} {xs : List (List UInt8)} {k : Nat} {acc : List Int} {c : UInt8} {x : List UInt8} (h : NumAt cs xs k acc) (hc : cs[k]? = some c) (hx : xs[k]? = some x) (hn : ¬ c = 110) : NumAt cs xs (k + 1) acc := by
  unfold NumAt at h ⊢
  rw [h, at_cons hc, at_cons hx, numsR_o hn]
theorem NumAt.take {cs : List UInt8} {xs : List (List UInt8)} {k : Nat} {acc : List Int} {c : UInt8} {x : List UInt8} {n : Int} (h : NumAt cs xs k acc) (hc : cs[k]? = some c) (hx : xs[k]? = some x) (hn : c = 110) (hp : numP x = some n) : NumAt cs xs (k + 1) (acc ++ [n]) := by
  unfold NumAt at h ⊢
  rw [h, at_cons hc, at_cons hx, numsR_n hn, hp]
  simp only [Option.map_map]
  congr 1
  funext l
  simp
theorem NumAt.fail {cs : List UInt8} {xs : List (List UInt8)} {k : Nat} {acc : List Int} {c : UInt8} {x : List UInt8} (h : NumAt cs xs k acc) (hc : cs[k]? = some c) (hx : xs[k]? = some x) (hn : c = 110) (hp : numP x = none) : numsR cs xs = none := by
  unfold NumAt at h
  rw [h, at_cons hc, at_cons hx, numsR_n hn, hp]
  rfl
theorem NumAt.end_ {cs : List UInt8} {xs : List (List UInt8)} {acc : List Int} {k : Nat} (h : NumAt cs xs k acc) (hk : cs.length ≤ k) : numsR cs xs = some acc := by
  unfold NumAt at h
  rw [h, List.drop_of_length_le hk]
  simp [numsR]
/-! ### the texts -/
def TextAt (cs : List UInt8) (xs : List (List UInt8)) (k : Nat) (acc : List (List UInt8)) : Prop := textsR cs xs = acc ++ textsR (cs.drop k) (xs.drop k)
theorem TextAt.zero (cs : List UInt8) (xs : List (List UInt8)) : TextAt cs xs 0 [] := by unfold TextAt; simp
theorem TextAt.skip {cs : List UInt8} {xs : List (List UInt8)} {k : Nat} {acc : List (List UInt8)} {c : UInt8} {x : List UInt8} (h : TextAt cs xs k acc) (hc : cs[k]? = some c) (hx : xs[k]? = some x) (hn : ¬ c = 116) : TextAt cs xs (k + 1) acc := by
  unfold TextAt at h ⊢
  rw [h, at_cons hc, at_cons hx, textsR, if_neg hn]
theorem TextAt.take {cs : List UInt8} {xs : List (List UInt8)} {k : Nat} {acc : List (List UInt8)} {c : UInt8} {x : List UInt8} (h : TextAt cs xs k acc) (hc : cs[k]? = some c) (hx : xs[k]? = some x) (hn : c = 116) : TextAt cs xs (k + 1) (acc ++ [x]) := by
  unfold TextAt at h ⊢
  rw [h, at_cons hc, at_cons hx, textsR, if_pos hn]
  simp
theorem TextAt.end_ {cs : List UInt8} {xs : List (List UInt8)} {acc : List (List UInt8)} {k : Nat} (h : TextAt cs xs k acc) (hk : cs.length ≤ k) : textsR cs xs = acc := by
  unfold TextAt at h
  rw [h, List.drop_of_length_le hk]
  simp [textsR]
/-! ### the fault's kind -/
def SubAt (F : RForm) (ws : List (List UInt8)) (k : Nat) (s : Int) : Prop := (F.kind = 8 ∧ 2 < k → s ≠ 0 ∧ s = subR 0 F.says ws) ∧ (¬ (F.kind = 8 ∧ 2 < k) → s = (F.sub : Nat))
theorem SubAt.zero (F : RForm) (ws : List (List UInt8)) : SubAt F ws 0 (F.sub : Nat) := ⟨fun h => by omega, fun _ => rfl⟩
theorem SubAt.skip {F : RForm} {ws : List (List UInt8)} {k : Nat} {s : Int} {c : UInt8} (hF : F ∈ RFORMS) (h : SubAt F ws k s) (hc : F.says[k]? = some c) (hn : ¬ c = 107) : SubAt F ws (k + 1) s := by
  have hk : F.kind = 8 → k ≠ 2 := fun h8 e => by
    rw [rforms_8 hF h8, e] at hc
    simp at hc
    exact hn hc.symm
  exact ⟨fun h2 => h.1 ⟨h2.1, by have := hk h2.1; omega⟩, fun h2 => h.2 fun h3 => h2 ⟨h3.1, by omega⟩⟩
theorem sub_two {F : RForm} {ws : List (List UInt8)} {k : Nat} {x : List UInt8} (hF : F ∈ RFORMS) (hl : ws.length = F.says.length) (hc : F.says[k]? = some 107) (hx : ws[k]? = some x) : F.kind = 8 ∧ F.sub = 0 ∧ k = 2 ∧ subR 0 F.says ws = newK 0 x := by
  obtain ⟨h8, h0, hs, rfl⟩ := rforms_k hF k hc
  refine ⟨h8, h0, rfl, ?_⟩
  rw [hs] at hl ⊢
  rcases ws with _ | ⟨a, _ | ⟨b, _ | ⟨c, _ | ⟨d, _ | ⟨e, _ | ⟨f, r⟩⟩⟩⟩⟩⟩ <;> simp at hl
  simp at hx
  subst hx
  simp [subR]
theorem rform_bad {F : RForm} {ws : List (List UInt8)} {k : Nat} {x : List UInt8} {ns : List Int} (hF : F ∈ RFORMS) (hl : ws.length = F.says.length) (hc : F.says[k]? = some 107) (hx : ws[k]? = some x) (h0 : newK 0 x = 0) (hn : numsR F.says ws = some ns) : rform F ws = (zR, 11) := by
  obtain ⟨h8, _, _, hs⟩ := sub_two hF hl hc hx
  unfold rform
  rw [if_neg (by simpa using hl), hn]
  simp only
  rw [if_pos ⟨h8, hs.trans h0⟩]
theorem SubAt.take {F : RForm} {ws : List (List UInt8)} {k : Nat} {x : List UInt8} (hF : F ∈ RFORMS) (hl : ws.length = F.says.length) (hc : F.says[k]? = some 107) (hx : ws[k]? = some x) (h0 : newK 0 x ≠ 0) : SubAt F ws (k + 1) (newK 0 x) := by
  obtain ⟨h8, _, rfl, hs⟩ := sub_two hF hl hc hx
  exact ⟨fun _ => ⟨h0, hs.symm⟩, fun h => absurd ⟨h8, by omega⟩ h⟩
theorem SubAt.start {F : RForm} {ws : List (List UInt8)} {k : Nat} {x : List UInt8} {s : Int} (hF : F ∈ RFORMS) (hl : ws.length = F.says.length) (hc : F.says[k]? = some 107) (hx : ws[k]? = some x) (h : SubAt F ws k s) : s = 0 := by
  obtain ⟨_, h0, rfl, _⟩ := sub_two hF hl hc hx
  rw [h.2 (by omega), h0]
  rfl
theorem rform_end {F : RForm} {ws : List (List UInt8)} {ns : List Int} {ts : List (List UInt8)} {s : Int} (hF : F ∈ RFORMS) (hl : ws.length = F.says.length) (hn : numsR F.says ws = some ns) (ht : textsR F.says ws = ts) (hs : SubAt F ws F.says.length s) : rform F ws = (⟨(F.kind : Nat), s, ts, ns⟩, 0) := by
  unfold rform
  rw [if_neg (by simpa using hl), hn]
  simp only
  by_cases h8 : F.kind = 8
  · have h5 : 2 < F.says.length := by rw [rforms_8 hF h8]; decide
    obtain ⟨h1, h2⟩ := hs.1 ⟨h8, h5⟩
    rw [if_neg (fun h => h1 (h2.trans h.2)), if_pos h8, ht, h2]
  · rw [if_neg (fun h => h8 h.1), if_neg h8, ht, hs.2 (fun h => h8 h.1)]
theorem rform_len {F : RForm} {ws : List (List UInt8)} (h : ¬ ws.length = F.says.length) : rform F ws = (zR, 14) := by unfold rform; rw [if_pos h]
theorem rform_num {F : RForm} {ws : List (List UInt8)} (h : ws.length = F.says.length) (hn : numsR F.says ws = none) : rform F ws = (zR, 6) := by
  unfold rform
  rw [if_neg (by simpa using h), hn]
/-! ### the kinds' words, one by one -/
def KindAt (x : List UInt8) (j : Nat) (s : Int) : Prop := s = match (KT.take j).find? (fun p => decide (p.2 = x)) with
  | some p => p.1
  | none => 0
theorem KindAt.zero (x : List UInt8) : KindAt x 0 0 := rfl
theorem kt_at (j : Fin 7) : ∃ l, KT[j.val]? = some (((j.val + 1 : Nat) : Int), l) := by
  have : ∀ j : Fin 7, ∃ l, KT[j.val]? = some (((j.val + 1 : Nat) : Int), l) := by
    intro j
    rcases j with ⟨j, hj⟩
    have : j = 0 ∨ j = 1 ∨ j = 2 ∨ j = 3 ∨ j = 4 ∨ j = 5 ∨ j = 6 := by omega
    rcases this with rfl | rfl | rfl | rfl | rfl | rfl | rfl <;> exact ⟨_, rfl⟩
  exact this j
theorem kt_find {x : List UInt8} {j : Nat} {p q : Int × List UInt8} (hj : KT[j]? = some p) (hp : p.2 = x) (hq : (KT.take j).find? (fun p => decide (p.2 = x)) = some q) : False := by
  have h1 := List.mem_of_find?_eq_some hq
  have h2 : q.2 = x := by have := List.find?_some hq; simpa using this
  have hall : ∀ j : Fin 7, ∀ q ∈ KT.take j.val, ∀ p, KT[j.val]? = some p → p.2 = q.2 → False := by
    intro j q hq p hp h
    have h3 := kt_one p (List.mem_of_getElem? hp) q (List.mem_of_mem_take hq) h
    obtain ⟨l, hl⟩ := kt_at j
    rw [hp] at hl
    cases hl
    have hlt : ∀ j : Fin 7, ∀ q ∈ KT.take j.val, q.1 < ((j.val + 1 : Nat) : Int) := by decide +kernel
    have := hlt j q hq
    simp only at h3
    omega
  have hl : j < 7 := (List.getElem?_eq_some_iff.1 hj).1
  exact hall ⟨j, hl⟩ q h1 p hj (hp.trans h2.symm)
theorem KindAt.no {x l : List UInt8} {j : Nat} {s i : Int} (h : KindAt x j s) (hj : KT[j]? = some (i, l)) (hx : ¬ l = x) : KindAt x (j + 1) s := by
  unfold KindAt at h ⊢
  rw [take_snoc hj, List.find?_append, h]
  have : List.find? (fun p : Int × List UInt8 => decide (p.2 = x)) [(i, l)] = none := by simp [hx]
  rw [this, Option.or_none]
theorem KindAt.yes {x l : List UInt8} {j : Nat} {i : Int} (hj : KT[j]? = some (i, l)) (hx : l = x) : KindAt x (j + 1) i := by
  unfold KindAt
  rw [take_snoc hj, List.find?_append]
  cases hq : (KT.take j).find? (fun p => decide (p.2 = x)) with
  | some q => exact (kt_find hj hx hq).elim
  | none => simp [hx]
theorem KindAt.end_ {x : List UInt8} {s : Int} (h : KindAt x 7 s) : s = newK 0 x := by
  unfold KindAt at h
  rw [h]
  rfl
/-! ### in memory -/
def intsV (l : List Int) : List Value := l.map (Value.int .i64)
def RBox (w : World) (V : Array Value) (R : RActD) : Prop := ∃ (A1 : Option Addr) (c1 : Nat) (A2 : Option Addr) (c2 : Nat) (D : List ByteArray), V = #[.int .i64 R.kind, .int .i64 R.sub, .slice A1 D.length c1, .slice A2 R.nums.length c2] ∧ D.map toL = R.texts ∧ Sl w A1 c1 D.length 1 (txs D) ∧ Sl w A2 c2 R.nums.length 1 (intsV R.nums)
def RpPost (w : World) (s : ByteArray) (e : Ending) (w' : World) : Prop := ∃ V, e = .returned (.tuple #[.agg V, .int .i64 (rparse (toL s)).2]) ∧ RBox w' V (rparse (toL s)).1 ∧ Below w.heap.size w w'
end Go.Proofs.YtbmnbhammganfaaDoor
