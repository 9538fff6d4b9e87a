/-
  limited.
-/
import Derived.Test.YtlljjddgbilipaaGreatDoorTxSa0
import Derived.Test.YtlljjddgbilipaaGreatDoorShelf
namespace Go.Proofs.YtlljjddgbilipaaGreatDoor
open Go.RowKit Go.Maps

set_option linter.unusedSimpArgs false

attribute [local go_sem] lt1 lt2 lt3 lt4 lt5 lt6

/-- words, one blank between -/
def joinB : List (List UInt8) → List UInt8
  | [] => []
  | [x] => x
  | x :: y :: r => x ++ 32 :: joinB (y :: r)
theorem join_eq (l : List (List UInt8)) : Lib.join l [32] = joinB l := by
  induction l with
  | nil => rfl
  | cons x r ih =>
    cases r with
    | nil => simp [Lib.join, joinB, List.intercalate]
    | cons y r =>
      rw [joinB, ← ih]
      simp [Lib.join, List.intercalate]
/-- a line that is not too long -/
def limP (l : List (List UInt8)) : List UInt8 × Int := if 65536 < (joinB l).length then ([], 13) else (joinB l, 0)
def LiPost (w : World) (l : List (List UInt8)) (e : Ending) (w' : World) : Prop := e = .returned (.tuple #[.string (mkS (limP l).1), .int .i64 (limP l).2]) ∧ Below w.heap.size w w'
theorem join_call (w : World) (D : List ByteArray) (A : Option Addr) (c : Nat) (hs : Sl w A c D.length 1 (txs D)) (hl : (joinB (D.map toL)).length ≤ 140737488355328) (hn : D.length ≤ 140737488355328) :
    Calls Tryz.prog 47 #[.slice A D.length c, .string ⟨#[32]⟩] w fun e w' => e = .returned (.string (mkS (joinB (D.map toL)))) ∧ Below w.heap.size w w' := by
  rcases Nat.eq_zero_or_pos D.length with h0 | h0
  · have hD : D = [] := List.eq_nil_of_length_eq_zero h0
    subst hD
    refine (Tryz.strings_Join_none A c ⟨#[32]⟩ w).mono ?_
    rintro e w' ⟨rfl, rfl⟩
    exact ⟨rfl, Below.refl _ _⟩
  · obtain ⟨b, o, hA, hx⟩ := hs.cells h0
    have hj : Lib.join (D.map (·.data.toList)) [32] = joinB (D.map toL) := join_eq _
    have hbk : b < w.heap.size := by
      have h1 := hx 0 (by omega)
      have hl : 0 < (txs D).length := by rw [txs_length]; exact h0
      rw [List.getElem?_eq_getElem hl] at h1
      exact World.block_lt_of_cell? w _ h1
    have hcells : ∀ (j : Nat) x, D[j]? = some x → w.cell? ⟨b, o + j, none⟩ = some (.string x) := fun j x hjx => by
      have hj := (List.getElem?_eq_some_iff.1 hjx).1
      rw [hx j (by omega), txs, List.getElem?_map, hjx]
      rfl
    rw [hA]
    refine (Tryz.strings_Join b o c D ⟨#[32]⟩ w hcells hbk (by omega) hs.le ?_).mono ?_
    · show (Lib.join (D.map (·.data.toList)) [32]).length ≤ _
      rw [hj]
      exact hl
    · rintro e w' ⟨he, hB⟩
      refine ⟨?_, hB⟩
      rw [he]
      show Ending.returned (.string ⟨(Lib.join (D.map (·.data.toList)) [32]).toArray⟩) = _
      rw [hj]
      rfl
theorem limited_any (w : World) (D : List ByteArray) (A : Option Addr) (c : Nat) (hs : Sl w A c D.length 1 (txs D)) (hl : (joinB (D.map toL)).length ≤ 140737488355328) (hn : D.length ≤ 140737488355328) :
    Calls Tryz.prog 25 #[.slice A D.length c] w (LiPost w (D.map toL)) := by
  have hj := join_call w D A c hs hl hn
  have Hj := Lib.hid hj
  clear hj hs
  by_cases h : 65536 < (joinB (D.map toL)).length
  · have hI : (65536 : Int) < ((mkS (joinB (D.map toL))).size : Int) := by rw [mkS_size]; omega
    have Hp : Hid (limP (D.map toL) = ([], 13)) := Lib.hid (by unfold limP; rw [if_pos h])
    clear h hl
    go_enter Tryz.func25, Tryz.ntmps25
    go_wp2_with fail
    refine Hj.out.mono ?_
    rintro e w1 ⟨rfl, hB⟩
    have HB := Lib.hid hB
    clear hB
    go_wp2_with fail
    go_ret2
    exact ⟨by rw [Hp.out]; rfl, HB.out⟩
  · have hI : ¬ (65536 : Int) < ((mkS (joinB (D.map toL))).size : Int) := by rw [mkS_size]; omega
    have Hp : Hid (limP (D.map toL) = (joinB (D.map toL), 0)) := Lib.hid (by unfold limP; rw [if_neg h])
    clear h hl
    go_enter Tryz.func25, Tryz.ntmps25
    go_wp2_with fail
    refine Hj.out.mono ?_
    rintro e w1 ⟨rfl, hB⟩
    have HB := Lib.hid hB
    clear hB
    go_wp2_with fail
    go_ret2
    exact ⟨by rw [Hp.out]; rfl, HB.out⟩
theorem joinB_len (B : Nat) : ∀ l : List (List UInt8), (∀ x ∈ l, x.length ≤ B) → (joinB l).length ≤ l.length * (B + 1)
  | [], _ => by simp [joinB]
  | [x], h => by
    have := h x (by simp)
    simp [joinB]
    omega
  | x :: y :: r, h => by
    have h1 := h x (by simp)
    have h2 := joinB_len B (y :: r) fun z hz => h z (by simp at hz ⊢; rcases hz with hz | hz <;> simp [hz])
    rw [joinB, List.length_append, List.length_cons, List.length_cons, Nat.succ_mul]
    omega
theorem writeW_len (l : List UInt8) : (writeW l).length ≤ 6 * l.length + 2 := by
  unfold writeW
  split
  · omega
  · have := quotes_len l
    unfold quoteL
    rw [List.length_cons, List.length_append]
    simp only [List.length_cons, List.length_nil]
    omega
theorem kindW_len (k : Int) : (kindW k).length ≤ 5 := by
  unfold kindW
  split
  · rename_i p hp
    have h1 := List.mem_of_find?_eq_some hp
    have : ∀ p ∈ KT, p.2.length ≤ 5 := by decide +kernel
    exact this p h1
  · simp
theorem saidF_len : ∀ (fs : List UInt8) (s : SaSt), ActOk s.act → (∀ x ∈ s.out, x.length ≤ 7000000) → ∀ x ∈ (saidF fs s).out, x.length ≤ 7000000
  | [], _, _, h => h
  | c :: r, s, ha, h => by
    rw [saidF]
    refine saidF_len r _ (ha.step c) ?_
    have h1 := ha.getT c
    have h2 := ha.getB c
    have h3 := ha.getN c
    have h4 := writeW_len (getT c s.act)
    have h5 := writeW_len (getB c s.act)
    have h6 := itoa_len h3.1 h3.2
    have h7 := kindW_len s.act.fk
    unfold saidStep
    repeat' split
    all_goals (intro x hx; try simp only [List.mem_append, List.mem_singleton] at hx)
    · rcases hx with hx | rfl
      · exact h x hx
      · omega
    · rcases hx with hx | rfl
      · exact h x hx
      · omega
    · rcases hx with hx | rfl
      · exact h x hx
      · omega
    · rcases hx with hx | rfl
      · exact h x hx
      · omega
    · exact h x hx
theorem forms_len {f : Form} (h : f ∈ FORMS) : f.word.length ≤ 9 ∧ f.second.length ≤ 9 := by
  have : ∀ f ∈ FORMS, f.word.length ≤ 9 ∧ f.second.length ≤ 9 := by decide +kernel
  exact this f h
end Go.Proofs.YtlljjddgbilipaaGreatDoor
