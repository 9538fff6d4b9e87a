/-
  Plain: the module that has a package.
-/
import Derived.Test.YtniphdhbgebedaaGreatDoorScEx
namespace Go.Proofs.YtniphdhbgebedaaGreatDoor

def ownB (p m : List UInt8) : Bool := decide (m = p) || (m ++ [47]).isPrefixOf p
def provF (p : List UInt8) : Option (List UInt8) → List (List UInt8) → Option (List UInt8)
  | b, [] => b
  | b, m :: r => provF p (if ownB p m = true ∧ (∀ x, b = some x → x.length < m.length) then some m else b) r
def provL (p : List UInt8) (mods : List (List UInt8)) : Option (List UInt8) := provF p none mods
theorem provF_app (p : List UInt8) : ∀ (l r : List (List UInt8)) (b : Option (List UInt8)), provF p b (l ++ r) = provF p (provF p b l) r
  | [], r, b => rfl
  | m :: l, r, b => by rw [List.cons_append, provF, provF, provF_app p l r]
/-- what is known of the best so far -/
theorem provF_spec (p : List UInt8) : ∀ (l : List (List UInt8)) (b : Option (List UInt8)),
    (∀ x, b = some x → ∃ y, provF p b l = some y ∧ x.length ≤ y.length) ∧
    (∀ y, provF p b l = some y → (b = some y ∨ (y ∈ l ∧ ownB p y = true)) ∧ (∀ m ∈ l, ownB p m = true → m.length ≤ y.length)) ∧
    (provF p b l = none → ∀ m ∈ l, ownB p m = false)
  | [], b => ⟨fun x h => ⟨x, by rw [provF, h], Nat.le_refl _⟩, fun y h => ⟨.inl h, by simp⟩, by simp⟩
  | m :: l, b => by
    rw [provF]
    by_cases h : ownB p m = true ∧ (∀ x, b = some x → x.length < m.length)
    · rw [if_pos h]
      obtain ⟨i1, i2, i3⟩ := provF_spec p l (some m)
      obtain ⟨y0, hy0, hl0⟩ := i1 m rfl
      refine ⟨fun x hx => ⟨y0, hy0, by have := h.2 x hx; omega⟩, fun y hy => ?_, fun hn => by rw [hy0] at hn; cases hn⟩
      obtain ⟨k1, k2⟩ := i2 y hy
      rw [hy0] at hy
      cases hy
      refine ⟨?_, ?_⟩
      · rcases k1 with k1 | k1
        · cases k1
          exact .inr ⟨by simp, h.1⟩
        · exact .inr ⟨by simp [k1.1], k1.2⟩
      · intro m' hm' ho
        rcases List.mem_cons.1 hm' with rfl | hm'
        · exact hl0
        · exact k2 m' hm' ho
    · rw [if_neg h]
      obtain ⟨i1, i2, i3⟩ := provF_spec p l b
      refine ⟨i1, fun y hy => ?_, fun hn => ?_⟩
      · obtain ⟨k1, k2⟩ := i2 y hy
        refine ⟨?_, ?_⟩
        · rcases k1 with k1 | k1
          · exact .inl k1
          · exact .inr ⟨by simp [k1.1], k1.2⟩
        · intro m' hm' ho
          rcases List.mem_cons.1 hm' with rfl | hm'
          · cases hb : b with
            | none => exact absurd ⟨ho, by simp [hb]⟩ h
            | some x =>
              obtain ⟨y', hy', hl⟩ := i1 x hb
              rw [hy'] at hy
              cases hy
              have hx : ¬ x.length < m'.length := fun hlt => h ⟨ho, fun z hz => by rw [hb] at hz; cases hz; exact hlt⟩
              omega
          · exact k2 m' hm' ho
      · intro m' hm'
        rcases List.mem_cons.1 hm' with rfl | hm'
        · cases hb : b with
          | none =>
            rcases Bool.eq_false_or_eq_true (ownB p m') with ho | ho
            · exact absurd ⟨ho, by simp [hb]⟩ h
            · exact ho
          | some x =>
            obtain ⟨y', hy', _⟩ := i1 x hb
            rw [hy'] at hn
            cases hn
        · exact i3 hn m' hm'
theorem prov_none {p : List UInt8} {mods : List (List UInt8)} (h : provL p mods = none) : ∀ m ∈ mods, ownB p m = false := (provF_spec p mods none).2.2 h
theorem prov_some {p : List UInt8} {mods : List (List UInt8)} {y : List UInt8} (h : provL p mods = some y) : y ∈ mods ∧ ownB p y = true ∧ ∀ m ∈ mods, ownB p m = true → m.length ≤ y.length := by
  obtain ⟨h1, h2⟩ := (provF_spec p mods none).2.1 y h
  rcases h1 with h1 | h1
  · cases h1
  · exact ⟨h1.1, h1.2, h2⟩
theorem prov_more {p : List UInt8} {mods : List (List UInt8)} {y more : List UInt8} (h : provL p mods = some y) : ∃ z, provL p (mods ++ [more]) = some z ∧ y.length ≤ z.length := by
  unfold provL at h ⊢
  rw [provF_app, h]
  exact (provF_spec p [more] (some y)).1 y rfl
end Go.Proofs.YtniphdhbgebedaaGreatDoor
