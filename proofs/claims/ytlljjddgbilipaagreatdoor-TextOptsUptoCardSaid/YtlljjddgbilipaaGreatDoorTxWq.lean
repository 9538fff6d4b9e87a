/-
  The reference's Words: plain laws of its indices.
-/
import Derived.Test.YtlljjddgbilipaaGreatDoorTxWr
namespace Go.Proofs.YtlljjddgbilipaaGreatDoor
open Go.RowKit

theorem hexD_of {h : UInt8} {a : Nat} (e : hexV h = some a) : hexD a = h ∧ a < 16 := by
  unfold hexV at e
  split at e
  · cases e
    refine ⟨?_, by omega⟩
    unfold hexD
    rw [if_pos (by omega), show 48 + (h.toNat - 48) = h.toNat by omega, UInt8.ofNat_toNat]
  · split at e
    · cases e
      refine ⟨?_, by omega⟩
      unfold hexD
      rw [if_neg (by omega), show 87 + (h.toNat - 87) = h.toNat by omega, UInt8.ofNat_toNat]
    · cases e
/-- what stands between the quotes of one byte's quotation -/
theorem quote_mid (x : UInt8) (Q : ByteArray) (h : toL Q = quoteL [x]) : toL (Q.extract 1 (Q.size - 1)) = quoteB x := by
  have hz : Q.size = (quoteB x).length + 2 := by
    rw [← toL_len, h]
    unfold quoteL
    simp
  rw [toL_extract, h, hz]
  unfold quoteL
  simp
theorem quoteB_plain {x : UInt8} (h34 : x ≠ 34) (h92 : x ≠ 92) : quoteB x = [x] ↔ oddB x = false := by
  unfold quoteB
  rw [if_neg (by simp [h34, h92])]
  cases oddB x <;> simp
theorem quoteB_esc {x : UInt8} (h : x = 34 ∨ x = 92) : quoteB x = [92, x] := by unfold quoteB; rw [if_pos h]
theorem quoteB_uni {h l : UInt8} {a b : Nat} (ha : hexV h = some a) (hb : hexV l = some b) : quoteB (UInt8.ofNat (16 * a + b)) = [92, 117, 48, 48, h, l] ↔ oddB (UInt8.ofNat (16 * a + b)) = true := by
  obtain ⟨h1, h2⟩ := hexD_of ha
  obtain ⟨h3, h4⟩ := hexD_of hb
  have hn : (UInt8.ofNat (16 * a + b)).toNat = 16 * a + b := by rw [UInt8.toNat_ofNat']; omega
  unfold quoteB
  by_cases hx : UInt8.ofNat (16 * a + b) = 34 ∨ UInt8.ofNat (16 * a + b) = 92
  · rw [if_pos hx]
    have : oddB (UInt8.ofNat (16 * a + b)) = false := by rcases hx with e | e <;> rw [e] <;> rfl
    rw [this]
    simp
  · rw [if_neg hx]
    by_cases ho : oddB (UInt8.ofNat (16 * a + b)) = true
    · rw [if_pos ho, hn, show (16 * a + b) / 16 = a by omega, show (16 * a + b) % 16 = b by omega, h1, h3, ho]
      exact ⟨fun _ => rfl, fun _ => rfl⟩
    · rw [if_neg ho]
      exact ⟨fun h => absurd (congrArg List.length h) (by simp), fun h => absurd h ho⟩
/-! ### the steps of a quoted word, by what stands at its index -/
theorem quo_plain {c : UInt8} {r : List UInt8} (h34 : c ≠ 34) (h92 : c ≠ 92) (ho : oddB c = false) : quotedK 0 (c :: r) = (quotedK 0 r).map fun p => (c :: p.1, p.2) := by
  rw [quotedK, if_neg (by rw [ho]; decide), if_neg h34, if_neg h92]
theorem quo_odd {c : UInt8} {r : List UInt8} (ho : oddB c = true) : quotedK 0 (c :: r) = none := by rw [quotedK, if_pos ho]
theorem quo_esc {r : List UInt8} {x : UInt8} {n : Nat} (h : escL r = some (x, n)) : quotedK 0 (92 :: r) = (quotedK 0 (r.drop n)).map fun p => (x :: p.1, p.2) := by
  rw [quotedK, if_neg (by decide), if_neg (by decide), if_pos rfl, h]
  simp only
  rw [quotedK_drop]
theorem quo_noesc {r : List UInt8} (h : escL r = none) : quotedK 0 (92 :: r) = none := by
  rw [quotedK, if_neg (by decide), if_neg (by decide), if_pos rfl, h]
theorem quo_end {r : List UInt8} : quotedK 0 (34 :: r) = some ([], r) := by
  rw [quotedK, if_neg (by decide), if_pos rfl]
/-- what stands behind a \: five ways -/
theorem esc_ways (r : List UInt8) : (∃ y t, r = y :: t ∧ (y = 34 ∨ y = 92)) ∨ (escL r = none ∧ r = []) ∨ (∃ y t, r = y :: t ∧ y ≠ 34 ∧ y ≠ 92 ∧ escL r = none ∧ r.length < 5) ∨
    (∃ y b1 b2 t, r = y :: b1 :: b2 :: t ∧ 2 ≤ t.length ∧ y ≠ 34 ∧ y ≠ 92 ∧ escL r = none ∧ [y, b1, b2] ≠ [117, 48, 48]) ∨ (∃ h l t, r = 117 :: 48 :: 48 :: h :: l :: t) := by
  match r with
  | [] => exact .inr (.inl ⟨rfl, rfl⟩)
  | y :: t =>
    by_cases hy : y = 34 ∨ y = 92
    · exact .inl ⟨y, t, rfl, hy⟩
    have h34 : y ≠ 34 := fun e => hy (.inl e)
    have h92 : y ≠ 92 := fun e => hy (.inr e)
    have he : escL (y :: t) = uniL (y :: t) := by rw [escL_cons, if_neg hy]
    by_cases hl : (y :: t).length < 5
    · refine .inr (.inr (.inl ⟨y, t, rfl, h34, h92, ?_, hl⟩))
      rw [he]
      rcases t with _ | ⟨a, _ | ⟨b, _ | ⟨d, _ | ⟨e, r⟩⟩⟩⟩ <;> first | rfl | (simp at hl; omega) | (unfold uniL; split <;> first | rfl | simp_all)
    · obtain ⟨b1, b2, h, l, r4, hr⟩ : ∃ b1 b2 h l r4, t = b1 :: b2 :: h :: l :: r4 := by
        rcases t with _ | ⟨a, _ | ⟨b, _ | ⟨d, _ | ⟨e, r⟩⟩⟩⟩
        · simp at hl
        · simp at hl
        · simp at hl
        · simp at hl
        · exact ⟨a, b, d, e, r, rfl⟩
      subst hr
      by_cases hu : [y, b1, b2] = [117, 48, 48]
      · simp only [List.cons.injEq, and_true] at hu
        obtain ⟨rfl, rfl, rfl⟩ := hu
        exact .inr (.inr (.inr (.inr ⟨h, l, r4, rfl⟩)))
      · refine .inr (.inr (.inr (.inl ⟨y, b1, b2, h :: l :: r4, rfl, by simp, h34, h92, ?_, hu⟩)))
        rw [he]
        unfold uniL
        split
        · rename_i heq
          simp only [List.cons.injEq] at heq
          exact absurd (by rw [heq.1, heq.2.1, heq.2.2.1]) hu
        · rfl
end Go.Proofs.YtlljjddgbilipaaGreatDoor
