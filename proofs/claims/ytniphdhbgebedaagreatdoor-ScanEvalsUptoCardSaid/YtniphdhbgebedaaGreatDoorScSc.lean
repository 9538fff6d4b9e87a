/-
  Texts sorted, and made unlike.
-/
import Derived.Test.YtniphdhbgebedaaGreatDoorScRn
import Derived.Lib.RowBridge
namespace Go.Proofs.YtniphdhbgebedaaGreatDoor
open Go.RowKit Go.Maps Go.Sort

set_option linter.unusedSimpArgs false

/-- a row of texts that may be turned in place -/
structure RowH (w : World) (A : Option Addr) (cap : Nat) (l : List (List UInt8)) : Prop where
  le : l.length ≤ cap
  big : cap ≤ maxLen
  nil : A = none → cap = 0
  holds : l = [] ∨ ∃ blk, A = some ⟨blk, 0, none⟩ ∧ blk < w.heap.size ∧ Holds encStr w blk 0 l.toArray
def FrA (A : Option Addr) (w w' : World) : Prop := w'.os = w.os ∧ w'.tape = w.tape ∧ w'.output = w.output ∧ w.heap.size ≤ w'.heap.size ∧ ∀ k, k < w.heap.size → (∀ a, A = some a → k ≠ a.block) → w'.heap[k]? = w.heap[k]?
theorem FrA.refl (A : Option Addr) (w : World) : FrA A w w := ⟨rfl, rfl, rfl, Nat.le_refl _, fun _ _ _ => rfl⟩
theorem FrA.trans {A : Option Addr} {a b c : World} (h : FrA A a b) (k : FrA A b c) : FrA A a c :=
  ⟨k.1.trans h.1, k.2.1.trans h.2.1, k.2.2.1.trans h.2.2.1, Nat.le_trans h.2.2.2.1 k.2.2.2.1, fun j hj hn => (k.2.2.2.2 j (Nat.lt_of_lt_of_le hj h.2.2.2.1) hn).trans (h.2.2.2.2 j hj hn)⟩
theorem encStr_mkS (x : List UInt8) : encStr x = .string (mkS x) := rfl
theorem RowH.sl {w : World} {A : Option Addr} {cap : Nat} {l : List (List UInt8)} (h : RowH w A cap l) : Sl w A cap l.length 1 (strs l) := by
  refine ⟨by simp [strs], fun hA => ⟨?_, h.nil hA⟩, h.le, h.big, fun hn => ?_⟩
  · have := h.nil hA
    have := h.le
    omega
  · rcases h.holds with rfl | ⟨blk, rfl, _, hH⟩
    · simp at hn
    · refine ⟨blk, 0, rfl, fun j hj => ?_⟩
      have hj' : j < l.length := by omega
      rw [(hH j (by simpa using hj')).1]
      simp [strs, hj', encStr_mkS]
theorem RowH.of_own {w : World} {sl : Value} {l : List (List UInt8)} (h : w.ownsRow 0 9 1 sl l.length (strs l)) : ∃ A cap, sl = .slice A l.length cap ∧ RowH w A cap l ∧ (∀ a, A = some a → sl.ownBlock = some a.block) := by
  obtain ⟨h1, ⟨rfl, h2⟩ | ⟨g, cap, cur, rfl, _, hg, hn, hc, hs, hx⟩⟩ := h
  · have : l = [] := List.eq_nil_of_length_eq_zero h2
    subst this
    exact ⟨none, 0, rfl, ⟨Nat.le_refl _, by simp, fun _ => rfl, .inl rfl⟩, fun a ha => by cases ha⟩
  · refine ⟨_, cap, rfl, ⟨hn, hc, (fun h => by cases h), .inr ⟨g, rfl, lt_of_heap hg, fun j hj => ?_⟩⟩, (fun a ha => by cases ha; rfl)⟩
    have hj' : j < l.length := by simpa using hj
    have e : cur[j]? = some (encStr l.toArray[j]!) := by
      have h3 : (strs l)[j]? = some (encStr l.toArray[j]!) := by simp [strs, hj', encStr_mkS]
      rw [← hx, List.getElem?_take_of_lt (by omega)] at h3
      simpa using h3
    rw [Nat.zero_add]
    exact ⟨((blk_cells hg).1 j).trans e, (blk_cells hg).2.1 j⟩
theorem fr_putRow {w : World} {blk off n : Nat} (d : Array (List UInt8)) (os : Array Obj) : FrA (some ⟨blk, 0, none⟩) w (grow (putRow encStr (Sort.ahead w n) blk off d) os) := by
  refine ⟨rfl, rfl, rfl, by simp, fun k hk hne => ?_⟩
  have h1 := hne _ rfl
  simp only at h1
  rw [heap_grow_old _ _ (by simpa using hk)]
  simp [putRow, mapBlock, Array.getElem?_modify, Ne.symm h1]
theorem sort_any (w : World) (A : Option Addr) (cap : Nat) (l : List (List UInt8)) (h : RowH w A cap l) (hl : l.length ≤ 1048577) :
    Calls Tryz.prog 32 #[.slice A l.length cap] w fun e w' => e = .returned (.tuple #[]) ∧ RowH w' A cap (l.mergeSort fun x y => decide (x ≤ y)) ∧ FrA A w w' := by
  rcases h.holds with rfl | ⟨blk, rfl, hb, hH⟩
  · refine (Tryz.slices_Sort_string_none A cap w).mono ?_
    rintro e w' ⟨rfl, rfl⟩
    exact ⟨rfl, by simpa using h, FrA.refl _ _⟩
  · refine (Tryz.slices_Sort_string blk 0 cap l w hH hb (by omega)).mono ?_
    rintro e w' ⟨rfl, n, os, rfl⟩
    have hlen : (l.mergeSort fun x y => decide (x ≤ y)).length = l.length := by simp
    refine ⟨rfl, ⟨by rw [hlen]; exact h.le, h.big, (fun h => by cases h), .inr ⟨blk, rfl, by simp; omega, ?_⟩⟩, fr_putRow _ _⟩
    refine holds_grow _ _ _ _ _ _ (by simpa using hb) ?_
    exact holds_putRow encStr (Sort.ahead w n) blk 0 l.toArray _ (holds_ahead _ _ _ _ _ _ hH) (by simp)
theorem compact_any (w : World) (A : Option Addr) (cap : Nat) (l : List (List UInt8)) (h : RowH w A cap l) (hl : l.length ≤ 1048577) :
    Calls Tryz.prog 33 #[.slice A l.length cap] w fun e w' => e = .returned (.slice A (Lib.compact l).length cap) ∧ RowH w' A cap (Lib.compact l) ∧ FrA A w w' := by
  have hcl := Lib.compact_length_le l
  rcases h.holds with rfl | ⟨blk, rfl, hb, hH⟩
  · refine (Tryz.slices_Compact_string_empty A cap w).mono ?_
    rintro e w' ⟨rfl, rfl⟩
    exact ⟨rfl, h, FrA.refl _ _⟩
  · refine (Tryz.slices_Compact_string blk 0 cap l w hH (by omega) h.le).mono ?_
    rintro e w' ⟨rfl, q, rfl⟩
    refine ⟨rfl, ⟨Nat.le_trans hcl h.le, h.big, (fun h => by cases h), .inr ⟨blk, rfl, by simpa using hb, fun j hj => ?_⟩⟩, by have := fr_putRow (w := w) (blk := blk) (off := 0) (n := q) (Lib.compact l ++ List.replicate (l.length - (Lib.compact l).length) []).toArray #[]; simpa using this⟩
    have hz := holds_putRow encStr (Sort.ahead w q) blk 0 l.toArray (Lib.compact l ++ List.replicate (l.length - (Lib.compact l).length) []).toArray (holds_ahead _ _ _ _ _ _ hH) (by simp; omega)
    have hj' : j < (Lib.compact l).length := by simpa using hj
    have := hz j (by simp; omega)
    refine ⟨this.1.trans (congrArg (fun z => some (encStr z)) ?_), this.2⟩
    simp [hj', List.getElem?_append_left hj']
end Go.Proofs.YtniphdhbgebedaaGreatDoor
