/-
  The order of names; a sorted list of files with unlike names is the one that the reference makes.
-/
import Derived.Test.YtdmladdpbdcpjaaDoorArkByName
import Derived.Test.YtdmladdpbdcpjaaDoorSortLaw
import Derived.Lib.Bytealg
namespace Go.Proofs.YtdmladdpbdcpjaaDoor

abbrev bl := Op.bytesLess
theorem bl_asym : ∀ a b : List UInt8, bl a b = true → bl b a = false
  | [], [], h => by simp [bl, Op.bytesLess] at h
  | [], _ :: _, _ => rfl
  | _ :: _, [], h => by simp [bl, Op.bytesLess] at h
  | a :: x, b :: y, h => by
    simp only [bl, Op.bytesLess, Bool.or_eq_true, Bool.and_eq_true, decide_eq_true_eq, beq_iff_eq] at h
    simp only [bl, Op.bytesLess, Bool.or_eq_false_iff, Bool.and_eq_false_iff, decide_eq_false_iff_not]
    rcases h with h | ⟨rfl, h⟩
    · rw [UInt8.lt_iff_toNat_lt] at h
      refine ⟨?_, .inl ?_⟩
      · rw [UInt8.lt_iff_toNat_lt]; omega
      · rw [beq_eq_false_iff_ne]; rintro rfl; omega
    · refine ⟨?_, .inr (bl_asym x y h)⟩
      rw [UInt8.lt_iff_toNat_lt]; omega
theorem bl_cons {a b : UInt8} {x y : List UInt8} : bl (a :: x) (b :: y) = false ↔ b.toNat < a.toNat ∨ (a.toNat = b.toNat ∧ bl x y = false) := by
  simp only [bl, Op.bytesLess, Bool.or_eq_false_iff, Bool.and_eq_false_iff, decide_eq_false_iff_not, UInt8.lt_iff_toNat_lt, beq_eq_false_iff_ne, ne_eq, ← UInt8.toNat_inj]
  constructor
  · rintro ⟨h1, h2 | h2⟩
    · exact .inl (by omega)
    · rcases Nat.lt_or_eq_of_le (Nat.le_of_not_lt h1) with h | h
      · exact .inl h
      · exact .inr ⟨h.symm, h2⟩
  · rintro (h | ⟨h1, h2⟩)
    · exact ⟨by omega, .inl (by omega)⟩
    · exact ⟨by omega, .inr h2⟩
theorem bl_ntrans : ∀ a b c : List UInt8, bl b a = false → bl c b = false → bl c a = false
  | [], _, c, _, _ => by cases c <;> rfl
  | _ :: _, [], _, h, _ => by simp [bl, Op.bytesLess] at h
  | _ :: _, _ :: _, [], _, h => by simp [bl, Op.bytesLess] at h
  | a :: x, b :: y, c :: z, h, k => by
    rw [bl_cons] at *
    rcases h with h | ⟨h1, h2⟩
    · rcases k with k | ⟨k1, k2⟩
      · exact .inl (by omega)
      · exact .inl (by omega)
    · rcases k with k | ⟨k1, k2⟩
      · exact .inl (by omega)
      · exact .inr ⟨by omega, bl_ntrans x y z h2 k2⟩
theorem bl_eq : ∀ a b : List UInt8, bl a b = false → bl b a = false → a = b
  | [], [], _, _ => rfl
  | [], _ :: _, h, _ => by simp [bl, Op.bytesLess] at h
  | _ :: _, [], _, h => by simp [bl, Op.bytesLess] at h
  | a :: x, b :: y, h, k => by
    rw [bl_cons] at *
    rcases h with h | ⟨h1, h2⟩
    · rcases k with k | ⟨k1, k2⟩ <;> omega
    · rcases k with k | ⟨k1, k2⟩
      · omega
      · rw [bl_eq x y h2 k2, UInt8.toNat_inj.1 h1]
theorem cmp_bl : ∀ a b : List UInt8, decide (Lib.compareBytes a b < 0) = bl a b
  | [], [] => rfl
  | [], _ :: _ => rfl
  | _ :: _, [] => rfl
  | a :: x, b :: y => by
    have ih := cmp_bl x y
    unfold Lib.compareBytes bl Op.bytesLess
    by_cases h1 : a < b
    · simp [h1]
    · by_cases h2 : b < a
      · have h3 : a ≠ b := by rintro rfl; exact h1 h2
        simp [h1, h2, h3]
      · have h3 : a = b := by
          rw [UInt8.lt_iff_toNat_lt] at h1 h2
          exact UInt8.toNat_inj.1 (by omega)
        subst h3
        simpa [h1] using ih
/-- the order of files by their names -/
def ltF (p q : Fl) : Bool := bl p.1.toList q.1.toList
theorem ordF : Ordr ltF := ⟨fun _ _ h => bl_asym _ _ h, fun _ _ _ h k => bl_ntrans _ _ _ h k⟩
theorem gtN_bl (a b : ByteArray) : gtN a b = bl b.toList a.toList := by
  unfold gtN
  cases h : bl b.toList a.toList with
  | true =>
    have h1 := bl_asym _ _ h
    have h2 : (a.toList == b.toList) = false := by
      rw [beq_eq_false_iff_ne]
      intro e
      rw [e] at h
      have := bl_asym _ _ h
      rw [h] at this
      cases this
    unfold bl at h1
    simp [h1, h2]
  | false =>
    cases h1 : bl a.toList b.toList with
    | true => unfold bl at h1; simp [h1]
    | false =>
      have := bl_eq _ _ h h1
      simp [this]
/-- sorted by names -/
def SrtL (l : List Fl) : Prop := l.Pairwise fun a b => ltF b a = false
theorem posN_spec (out : List Fl) (x : ByteArray) : ∀ k, (∀ j, posN out x k ≤ j → j < k → gtN (out.getD j noFl).1 x = true) ∧ (0 < posN out x k → gtN (out.getD (posN out x k - 1) noFl).1 x = false)
  | 0 => ⟨fun j _ h => by omega, fun h => by simp [posN] at h⟩
  | k + 1 => by
    obtain ⟨i1, i2⟩ := posN_spec out x k
    unfold posN
    split
    · rename_i h
      refine ⟨fun j h1 h2 => ?_, i2⟩
      by_cases e : j = k
      · subst e; exact h
      · exact i1 j h1 (by omega)
    · rename_i h
      refine ⟨fun j h1 h2 => by omega, fun _ => ?_⟩
      simpa using h
theorem insN_perm (out : List Fl) (p : Fl) : (insN out p).Perm (p :: out) := by
  unfold insN
  have := List.perm_middle (a := p) (l₁ := out.take (posN out p.1 out.length)) (l₂ := out.drop (posN out p.1 out.length))
  rw [List.take_append_drop] at this
  simpa using this
theorem byName_perm (l : List Fl) : (byName l).Perm l := by
  unfold byName
  suffices ∀ out : List Fl, (l.foldl insN out).Perm (l ++ out) by simpa using this []
  induction l with
  | nil => intro out; exact List.Perm.refl _
  | cons p l ih =>
    intro out
    rw [List.foldl_cons]
    refine (ih _).trans ?_
    refine (List.Perm.append_left l (insN_perm out p)).trans ?_
    exact List.perm_middle
theorem insN_sorted {out : List Fl} (h : SrtL out) (p : Fl) : SrtL (insN out p) := by
  obtain ⟨s1, s2⟩ := posN_spec out p.1 out.length
  have hle := posN_le out p.1 out.length
  unfold insN
  generalize posN out p.1 out.length = k at *
  unfold SrtL at *
  rw [List.append_assoc, List.pairwise_append]
  have hg := List.pairwise_iff_getElem.1 h
  have hd : ∀ j (hj : j < out.length), out.getD j noFl = out[j] := fun j hj => by simp [List.getD_eq_getElem?_getD, hj]
  refine ⟨h.sublist (List.take_sublist _ _), ?_, ?_⟩
  · rw [List.singleton_append, List.pairwise_cons]
    refine ⟨fun b hb => ?_, h.sublist (List.drop_sublist _ _)⟩
    obtain ⟨i, hi, rfl⟩ := List.getElem_of_mem hb
    rw [List.length_drop] at hi
    have := s1 (k + i) (by omega) (by omega)
    rw [gtN_bl, hd (k + i) (by omega)] at this
    rw [List.getElem_drop]
    exact bl_asym _ _ this
  · intro a ha b hb
    obtain ⟨i, hi, rfl⟩ := List.getElem_of_mem ha
    rw [List.length_take] at hi
    rw [List.getElem_take]
    have hlow : ltF p out[i] = false := by
      have h0 := s2 (by omega)
      rw [gtN_bl, hd (k - 1) (by omega)] at h0
      by_cases e : i = k - 1
      · subst e; exact h0
      · exact ordF.trans _ _ _ (hg i (k - 1) (by omega) (by omega) (by omega)) h0
    rw [List.singleton_append, List.mem_cons] at hb
    rcases hb with rfl | hb
    · exact hlow
    · obtain ⟨j, hj, rfl⟩ := List.getElem_of_mem hb
      rw [List.length_drop] at hj
      rw [List.getElem_drop]
      exact hg i (k + j) (by omega) (by omega) (by omega)
theorem byName_sorted (l : List Fl) : SrtL (byName l) := by
  unfold byName
  suffices ∀ out : List Fl, SrtL out → SrtL (l.foldl insN out) by exact this [] List.Pairwise.nil
  induction l with
  | nil => intro out h; exact h
  | cons p l ih => intro out h; exact ih _ (insN_sorted h p)
theorem sorted_unique {l L : List Fl} (hd : ∀ a ∈ l, ∀ b ∈ l, a.1 = b.1 → a = b) (hp : L.Perm l) (hs : SrtL L) : L = byName l := by
  refine List.Perm.eq_of_pairwise (le := fun a b => ltF b a = false) (fun a b ha hb h1 h2 => ?_) hs (byName_sorted l) (hp.trans (byName_perm l).symm)
  refine hd a (hp.mem_iff.1 ha) b ((byName_perm l).mem_iff.1 hb) ?_
  have := bl_eq _ _ h2 h1
  rw [Lib.toList_data, Lib.toList_data] at this
  exact ByteArray.ext (Array.toList_inj.1 this)
end Go.Proofs.YtdmladdpbdcpjaaDoor
