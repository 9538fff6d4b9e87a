/-
  span: how many bytes of a bare word a text begins with.
-/
import Derived.Test.YtlljjddgbilipaaGreatDoorTxBy
namespace Go.Proofs.YtlljjddgbilipaaGreatDoor
open Go.RowKit

set_option linter.unusedSimpArgs false

attribute [local go_sem] lt1 lt2 lt3 lt4 lt5 lt6

def spanL (l : List UInt8) : Nat := (l.takeWhile bareB).length
theorem spanL_at : ∀ {l : List UInt8} {k : Nat}, k ≤ l.length → (∀ j, j < k → bareB (l.getD j 0) = true) → (k = l.length ∨ bareB (l.getD k 0) = false) → spanL l = k
  | [], k, h, _, _ => by
    have : k = 0 := by simpa using h
    subst this
    rfl
  | c :: r, 0, _, _, h => by
    rcases h with h | h
    · simp at h
    · unfold spanL
      rw [List.takeWhile_cons_of_neg (by simpa using h)]
      rfl
  | c :: r, k + 1, h, hb, he => by
    have h0 := hb 0 (by omega)
    have ih := spanL_at (l := r) (k := k) (by simpa using h) (fun j hj => by simpa using hb (j + 1) (by omega)) (by simpa using he)
    unfold spanL at ih ⊢
    rw [List.takeWhile_cons_of_pos (by simpa using h0), List.length_cons, ih]
theorem spanL_le (l : List UInt8) : spanL l ≤ l.length := (List.takeWhile_sublist _).length_le
theorem takeWhile_take {q : UInt8 → Bool} : ∀ l : List UInt8, l.takeWhile q = l.take (l.takeWhile q).length
  | [] => rfl
  | c :: r => by
    by_cases h : q c = true
    · rw [List.takeWhile_cons_of_pos h, List.length_cons, List.take_succ_cons, ← takeWhile_take r]
    · rw [List.takeWhile_cons_of_neg h]; rfl
theorem dropWhile_drop {q : UInt8 → Bool} : ∀ l : List UInt8, l.dropWhile q = l.drop (l.takeWhile q).length
  | [] => rfl
  | c :: r => by
    by_cases h : q c = true
    · rw [List.takeWhile_cons_of_pos h, List.dropWhile_cons_of_pos h, List.length_cons, List.drop_succ_cons, ← dropWhile_drop r]
    · rw [List.takeWhile_cons_of_neg h, List.dropWhile_cons_of_neg h]; rfl
def SpanRel (l : List UInt8) (v : Value) : Prop := ∃ k, k ≤ l.length ∧ v = .int .i64 (k : Nat) ∧ ∀ j, j < k → bareB (l.getD j 0) = true
theorem span_any (w : World) (s : ByteArray) (hl : s.size ≤ 1048576) :
    Calls Tryz.prog 30 #[.string s] w fun e w' => e = .returned (.int .i64 (spanL (toL s) : Nat)) ∧ w' = w := by
  go_enter Tryz.func30, Tryz.ntmps30
  go_wp2_with fail
  go_loop [3] (fun v => SpanRel (toL s) v) (fun v => s.size - (intOf v).toNat)
  case atStart => exact ⟨0, by omega, rfl, fun j hj => by omega⟩
  case round =>
    obtain ⟨k, hk, rfl, hok⟩ := hrel
    have Hok := Lib.hid hok
    clear hok
    rw [toL_len] at hk
    have hkr : (0 : Int) ≤ k := by omega
    by_cases hlt : k < s.size
    · have hkI : (k : Int) < s.size := by omega
      have hb := str_byte hlt
      obtain ⟨x, hx⟩ : ∃ x, x = (toL s).getD k 0 := ⟨_, rfl⟩
      rw [← hx] at hb
      have Hx := Lib.hid hx
      clear hx
      go_wp2_with fail
      refine (bare_any x _).mono ?_
      rintro e w1 ⟨rfl, rfl⟩
      cases hbr : bareB x with
      | true =>
        have Hb := Lib.hid hbr
        clear hbr
        go_wp2_with fail
        refine ⟨⟨k + 1, by rw [toL_len]; omega, rfl, fun j hj => ?_⟩, by simp [intOf]; omega⟩
        rcases Nat.lt_or_ge j k with h2 | h2
        · exact Hok.out j h2
        · obtain rfl : j = k := by omega
          rw [← Hx.out]
          exact Hb.out
      | false =>
        have Hb := Lib.hid hbr
        clear hbr
        go_wp2_with fail
        go_ret
        refine ⟨ret_int ?_, rfl⟩
        rw [spanL_at (k := k) (by rw [toL_len]; omega) Hok.out (.inr (by rw [← Hx.out]; exact Hb.out))]
    · have hkI : ¬ (k : Int) < s.size := by omega
      go_wp2_with fail
      go_ret
      refine ⟨ret_int ?_, rfl⟩
      rw [spanL_at (k := k) (by rw [toL_len]; omega) Hok.out (.inl (by rw [toL_len]; omega))]
end Go.Proofs.YtlljjddgbilipaaGreatDoor
