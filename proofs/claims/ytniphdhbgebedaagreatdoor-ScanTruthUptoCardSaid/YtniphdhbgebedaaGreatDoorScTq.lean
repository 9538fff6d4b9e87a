/-
  Plain: the eight texts of ScanTruth.
-/
import Derived.Test.YtniphdhbgebedaaGreatDoorScAp
namespace Go.Proofs.YtniphdhbgebedaaGreatDoor
open Go.RowKit

set_option linter.unusedSimpArgs false

def parS (a : ByteArray) : ByteArray := ⟨#[40]⟩ ++ a ++ ⟨#[41]⟩
def tru8 (P Q R : ByteArray) : List ByteArray := [⟨#[33, 33]⟩ ++ P, P ++ ⟨#[38, 38]⟩ ++ Q, Q ++ ⟨#[32, 38, 38, 32]⟩ ++ P, ⟨#[33, 40, 33]⟩ ++ P ++ ⟨#[124, 124, 33]⟩ ++ Q ++ ⟨#[41]⟩, P ++ ⟨#[124, 124]⟩ ++ Q,
  P ++ ⟨#[38, 38, 40]⟩ ++ Q ++ ⟨#[124, 124]⟩ ++ R ++ ⟨#[41]⟩, P ++ ⟨#[38, 38]⟩ ++ Q ++ ⟨#[124, 124]⟩ ++ P ++ ⟨#[38, 38]⟩ ++ R, P ++ ⟨#[124, 124]⟩ ++ Q ++ ⟨#[38, 38]⟩ ++ R]
def ex8 (x y z : Ex) : List Ex := [.not (.not x), .and x y, .and y x, .not (.or (.not x) (.not y)), .or x y, .and x (.or y z), .or (.and x y) (.and x z), .or x (.and y z)]
def want8 (x y z : Bool) : List Bool := [x, x && y, x && y, x && y, x || y, x && (y || z), x && (y || z), x || (y && z)]
theorem ex8_want (has : List UInt8 → Bool) (x y z : Ex) : (ex8 x y z).map (·.ev has) = want8 (x.ev has) (y.ev has) (z.ev has) := by
  simp only [ex8, want8, List.map_cons, List.map_nil, Ex.ev]
  cases x.ev has <;> cases y.ev has <;> cases z.ev has <;> rfl
theorem toL_app (a b : ByteArray) : toL (a ++ b) = toL a ++ toL b := by simp [toL]
theorem toL_par (a : ByteArray) : toL (parS a) = inP (toL a) [] := by simp [parS, toL_app, inP]; simp [toL]
theorem ex8_len (x y z : Ex) : (ex8 x y z).length = 8 := rfl
theorem tru8_len (P Q R : ByteArray) : (tru8 P Q R).length = 8 := rfl
theorem tru8_whole {a b c : ByteArray} {x y z : Ex} (ha : Whole (toL a) x) (hb : Whole (toL b) y) (hc : Whole (toL c) z) : ∀ (k : Nat) (t : ByteArray) (e : Ex), (tru8 (parS a) (parS b) (parS c))[k]? = some t → (ex8 x y z)[k]? = some e → Whole (toL t) e
  | 0, _, _, ht, he => by
    cases ht; cases he
    have h := truth1 ha
    rw [toL_app, toL_par]; exact h
  | 1, _, _, ht, he => by
    cases ht; cases he
    have h := truth2 ha hb
    simp only [toL_app, toL_par]; simpa [inP, toL] using h
  | 2, _, _, ht, he => by
    cases ht; cases he
    have h := truth3 ha hb
    simp only [toL_app, toL_par]; simpa [inP, toL] using h
  | 3, _, _, ht, he => by
    cases ht; cases he
    have h := truth4 ha hb
    simp only [toL_app, toL_par]; simpa [inP, toL] using h
  | 4, _, _, ht, he => by
    cases ht; cases he
    have h := truth5 ha hb
    simp only [toL_app, toL_par]; simpa [inP, toL] using h
  | 5, _, _, ht, he => by
    cases ht; cases he
    have h := truth6 ha hb hc
    simp only [toL_app, toL_par]; simpa [inP, toL] using h
  | 6, _, _, ht, he => by
    cases ht; cases he
    have h := truth7 ha hb hc
    simp only [toL_app, toL_par]; simpa [inP, toL] using h
  | 7, _, _, ht, he => by
    cases ht; cases he
    have h := truth8 ha hb hc
    simp only [toL_app, toL_par]; simpa [inP, toL] using h
  | k + 8, _, _, ht, he => by simp [tru8] at ht
theorem ev_whole {s : List UInt8} {has : List UInt8 → Bool} {B : Bool} {E : Int} {x : Ex} (h : EvIs s has B E) (hw : Whole s x) (hl : s.length ≤ 1000) : B = x.ev has ∧ E = 0 := by
  rcases h with ⟨h, _⟩ | ⟨_, h, _⟩ | ⟨_, y, h, h1, h2⟩
  · omega
  · exact absurd ⟨x, hw⟩ h
  · rw [whole_det hw h]
    exact ⟨h1, h2⟩
theorem ev_ok {s : List UInt8} {has : List UInt8 → Bool} {B : Bool} {E : Int} (h : EvIs s has B E) : E ≠ 0 ∨ ∃ x, Whole s x ∧ B = x.ev has ∧ E = 0 := by
  rcases h with ⟨_, _, h⟩ | ⟨_, _, _, h⟩ | ⟨_, y, h, h1, h2⟩
  · exact .inl (by rw [h]; decide)
  · exact .inl (by rw [h]; decide)
  · exact .inr ⟨y, h, h1, h2⟩
theorem tru8_size {a b c : ByteArray} (ha : a.size ≤ 100) (hb : b.size ≤ 100) (hc : c.size ≤ 100) : ∀ t ∈ tru8 (parS a) (parS b) (parS c), (toL t).length ≤ 1000 := by
  intro t ht
  have e1 : (toL ⟨#[33, 33]⟩).length = 2 := rfl
  have e2 : (toL ⟨#[38, 38]⟩).length = 2 := rfl
  have e3 : (toL ⟨#[32, 38, 38, 32]⟩).length = 4 := rfl
  have e4 : (toL ⟨#[33, 40, 33]⟩).length = 3 := rfl
  have e5 : (toL ⟨#[124, 124, 33]⟩).length = 3 := rfl
  have e6 : (toL ⟨#[41]⟩).length = 1 := rfl
  have e7 : (toL ⟨#[124, 124]⟩).length = 2 := rfl
  have e8 : (toL ⟨#[38, 38, 40]⟩).length = 3 := rfl
  have hp : ∀ a : ByteArray, (toL (parS a)).length = a.size + 2 := fun a => by rw [toL_par, inP, List.length_cons, List.length_append, toL_len]; rfl
  simp only [tru8, List.mem_cons, List.not_mem_nil, or_false] at ht
  rcases ht with rfl | rfl | rfl | rfl | rfl | rfl | rfl | rfl <;> simp only [toL_app, List.length_append, hp, e1, e2, e3, e4, e5, e6, e7, e8] <;> omega
theorem tru8_ev {a b c : ByteArray} {x y z : Ex} {has : List UInt8 → Bool} (ha : Whole (toL a) x) (hb : Whole (toL b) y) (hc : Whole (toL c) z) (la : a.size ≤ 100) (lb : b.size ≤ 100) (lc : c.size ≤ 100) {k : Nat} {t : ByteArray} {B : Bool} {E : Int}
    (ht : (tru8 (parS a) (parS b) (parS c))[k]? = some t) (h : EvIs (toL t) has B E) : (want8 (x.ev has) (y.ev has) (z.ev has))[k]? = some B ∧ E = 0 := by
  have hk : k < 8 := by
    have := (List.getElem?_eq_some_iff.1 ht).1
    rwa [tru8_len] at this
  obtain ⟨e, he⟩ : ∃ e, (ex8 x y z)[k]? = some e := ⟨_, List.getElem?_eq_getElem (by rw [ex8_len]; exact hk)⟩
  obtain ⟨rfl, rfl⟩ := ev_whole h (tru8_whole ha hb hc k t e ht he) (tru8_size la lb lc t (List.mem_of_getElem? ht))
  rw [← ex8_want, List.getElem?_map, he]
  exact ⟨rfl, rfl⟩
/-- a tag that is not spoken of -/
theorem ev_more {a m : ByteArray} {x : Ex} {T : List ByteArray} (h : Whole (toL a) x) (hm : ¬ (toL m <:+: toL a)) : x.ev (hasT (T ++ [m])) = x.ev (hasT T) := by
  obtain ⟨r, hp, _⟩ := h
  refine ev_same fun t ht => ?_
  have hin : t <:+: toL a := by
    rcases (tags_in hp).2 x rfl t ht with h | ⟨_, _, h, _⟩
    · exact h
    · cases h
  have hne : mkS t ≠ m := fun e => hm (by rw [← e, toL_mkS]; exact hin)
  unfold hasT
  rw [Bool.eq_iff_iff, Lib.containsS_iff, Lib.containsS_iff, List.mem_append, List.mem_singleton]
  exact ⟨fun h => h.resolve_right hne, .inl⟩
theorem infix_at {m a : List UInt8} (h : m <:+: a) : ∃ j, j + m.length ≤ a.length ∧ (a.drop j).take m.length = m := by
  obtain ⟨p, q, rfl⟩ := h
  refine ⟨p.length, by simp only [List.length_append]; omega, ?_⟩
  rw [List.append_assoc, List.drop_left, List.take_left]
def SpR (a m : ByteArray) (sv iv : Value) : Prop := ∃ (k : Nat) (sp : Bool), sv = .bool sp ∧ iv = .int .i64 (k : Nat) ∧ k ≤ a.size + 1 ∧ Hid (sp = false → ∀ j, j < k → a.extract j (j + m.size) ≠ m)
theorem sp_end {a m : ByteArray} {k : Nat} (h : ∀ j, j < k → a.extract j (j + m.size) ≠ m) (hk : a.size < k + m.size) : ¬ (toL m <:+: toL a) := fun hi => by
  obtain ⟨j, hj, e⟩ := infix_at hi
  rw [toL_len, toL_len] at hj
  refine h j (by omega) (toL_inj ?_)
  rw [toL_extract, show j + m.size - j = m.size by omega]
  rwa [toL_len] at e
end Go.Proofs.YtniphdhbgebedaaGreatDoor
