/-
  The small functions on bytes: bare, odd, place; span, escaped.
-/
import Derived.Test.YtlljjddgbilipaaGreatDoorTxOwn
import Derived.Test.YtlljjddgbilipaaGreatDoorShelf
namespace Go.Proofs.YtlljjddgbilipaaGreatDoor
open Go.RowKit

set_option linter.unusedSimpArgs false

attribute [local go_sem] lt1 lt2 lt3 lt4 lt5 lt6

theorem bareB_nat (c : UInt8) : bareB c = (decide (33 ≤ c.toNat) && decide (c.toNat ≤ 126) && !decide (c.toNat = 34) && !decide (c.toNat = 92)) := by
  revert c
  exact forall_u8 (by decide +kernel)
theorem bare_any (c : UInt8) (w : World) : Calls Tryz.prog 53 #[.int .u8 (c.toNat : Nat)] w fun e w' => e = .returned (.bool (bareB c)) ∧ w = w' := by
  have hc := c.toNat_lt
  rw [bareB_nat]
  generalize c.toNat = n at *
  by_cases h1 : 33 ≤ n
  · have i1 : (33 : Int) ≤ n := by omega
    by_cases h2 : n ≤ 126
    · have i2 : (n : Int) ≤ 126 := by omega
      by_cases h3 : n = 34
      · subst h3
        go_enter Tryz.func53, Tryz.ntmps53
        go_wp2_with fail
        go_ret
        exact ⟨rfl, rfl⟩
      · have i3 : ((n : Int) == 34) = false := by rw [beq_eq_false_iff_ne]; omega
        have i3' : ((n : Int) != 34) = true := by rw [bne_iff_ne]; omega
        by_cases h4 : n = 92
        · subst h4
          go_enter Tryz.func53, Tryz.ntmps53
          go_wp2_with fail
          go_ret
          exact ⟨rfl, rfl⟩
        · have i4 : ((n : Int) != 92) = true := by rw [bne_iff_ne]; omega
          go_enter Tryz.func53, Tryz.ntmps53
          go_wp2_with fail
          go_ret
          exact ⟨bool_ret (by simp [h1, h2, h3, h4]), rfl⟩
    · have i2 : ¬ (n : Int) ≤ 126 := by omega
      go_enter Tryz.func53, Tryz.ntmps53
      go_wp2_with fail
      go_ret
      exact ⟨bool_ret (by simp [h2]), rfl⟩
  · have i1 : ¬ (33 : Int) ≤ n := by omega
    go_enter Tryz.func53, Tryz.ntmps53
    go_wp2_with fail
    go_ret
    exact ⟨bool_ret (by simp [h1]), rfl⟩
theorem bare_ref (c : UInt8) (w : World) : Calls Tryz.prog 41 #[.int .u8 (c.toNat : Nat)] w fun e w' => e = .returned (.bool (bareB c)) ∧ w = w' := by
  have hc := c.toNat_lt
  rw [bareB_nat]
  generalize c.toNat = n at *
  by_cases h1 : 33 ≤ n
  · have i1 : (33 : Int) ≤ n := by omega
    by_cases h2 : n ≤ 126
    · have i2 : (n : Int) ≤ 126 := by omega
      by_cases h3 : n = 34
      · subst h3
        go_enter Tryz.func41, Tryz.ntmps41
        go_wp2_with fail
        go_ret
        exact ⟨rfl, rfl⟩
      · have i3 : ((n : Int) == 34) = false := by rw [beq_eq_false_iff_ne]; omega
        have i3' : ((n : Int) != 34) = true := by rw [bne_iff_ne]; omega
        by_cases h4 : n = 92
        · subst h4
          go_enter Tryz.func41, Tryz.ntmps41
          go_wp2_with fail
          go_ret
          exact ⟨rfl, rfl⟩
        · have i4 : ((n : Int) != 92) = true := by rw [bne_iff_ne]; omega
          go_enter Tryz.func41, Tryz.ntmps41
          go_wp2_with fail
          go_ret
          exact ⟨bool_ret (by simp [h1, h2, h3, h4]), rfl⟩
    · have i2 : ¬ (n : Int) ≤ 126 := by omega
      go_enter Tryz.func41, Tryz.ntmps41
      go_wp2_with fail
      go_ret
      exact ⟨bool_ret (by simp [h2]), rfl⟩
  · have i1 : ¬ (33 : Int) ≤ n := by omega
    go_enter Tryz.func41, Tryz.ntmps41
    go_wp2_with fail
    go_ret
    exact ⟨bool_ret (by simp [h1]), rfl⟩
theorem oddB_nat (c : UInt8) : oddB c = (decide (c.toNat < 32) || decide (127 ≤ c.toNat)) := rfl
theorem odd_any (c : UInt8) (w : World) : Calls Tryz.prog 54 #[.int .u8 (c.toNat : Nat)] w fun e w' => e = .returned (.bool (oddB c)) ∧ w = w' := by
  have hc := c.toNat_lt
  rw [oddB_nat]
  generalize c.toNat = n at *
  by_cases h1 : n < 32
  · have i1 : (n : Int) < 32 := by omega
    go_enter Tryz.func54, Tryz.ntmps54
    go_wp2_with fail
    go_ret
    exact ⟨bool_ret (by simp [h1]), rfl⟩
  · have i1 : ¬ (n : Int) < 32 := by omega
    by_cases h2 : 127 ≤ n
    · have i2 : (127 : Int) ≤ n := by omega
      go_enter Tryz.func54, Tryz.ntmps54
      go_wp2_with fail
      go_ret
      exact ⟨bool_ret (by simp [h2]), rfl⟩
    · have i2 : ¬ (127 : Int) ≤ n := by omega
      go_enter Tryz.func54, Tryz.ntmps54
      go_wp2_with fail
      go_ret
      exact ⟨bool_ret (by simp [h1, h2]), rfl⟩
theorem odd_bill (c : UInt8) (w : World) : Calls Tryz.prog 60 #[.int .u8 (c.toNat : Nat)] w fun e w' => e = .returned (.bool (oddB c)) ∧ w = w' := by
  have hc := c.toNat_lt
  rw [oddB_nat]
  generalize c.toNat = n at *
  by_cases h1 : n < 32
  · have i1 : (n : Int) < 32 := by omega
    go_enter Tryz.func60, Tryz.ntmps60
    go_wp2_with fail
    go_ret
    exact ⟨bool_ret (by simp [h1]), rfl⟩
  · have i1 : ¬ (n : Int) < 32 := by omega
    by_cases h2 : 127 ≤ n
    · have i2 : (127 : Int) ≤ n := by omega
      go_enter Tryz.func60, Tryz.ntmps60
      go_wp2_with fail
      go_ret
      exact ⟨bool_ret (by simp [h2]), rfl⟩
    · have i2 : ¬ (127 : Int) ≤ n := by omega
      go_enter Tryz.func60, Tryz.ntmps60
      go_wp2_with fail
      go_ret
      exact ⟨bool_ret (by simp [h1, h2]), rfl⟩
theorem hexV_nat (c : UInt8) : hexV c = if 48 ≤ c.toNat ∧ c.toNat ≤ 57 then some (c.toNat - 48) else if 97 ≤ c.toNat ∧ c.toNat ≤ 102 then some (c.toNat - 87) else none := rfl
def placeI (c : UInt8) : Int := match hexV c with
  | some a => a
  | none => -1
theorem wrap_u8 {n : Int} (h0 : 0 ≤ n) (h1 : n < 256) : IntKind.u8.wrap n = n := by simp [IntKind.wrap, IntKind.bits, IntKind.signed]; omega
theorem place_ref (c : UInt8) (w : World) : Calls Tryz.prog 42 #[.int .u8 (c.toNat : Nat)] w fun e w' => e = .returned (.int .i64 (placeI c)) ∧ w = w' := by
  have hc := c.toNat_lt
  unfold placeI
  rw [hexV_nat]
  generalize c.toNat = n at *
  have h48 : (0 : Int) ≤ n := by omega
  by_cases h1 : 48 ≤ n
  · have i1 : (48 : Int) ≤ n := by omega
    by_cases h2 : n ≤ 57
    · have i2 : (n : Int) ≤ 57 := by omega
      have i3 : (0 : Int) ≤ (n : Int) - 48 := by omega
      have r1 : IntKind.u8.wrap ((n : Int) - 48) = (n : Int) - 48 := wrap_u8 (by omega) (by omega)
      rw [if_pos ⟨h1, h2⟩]
      go_enter Tryz.func42, Tryz.ntmps42
      go_wp2_with fail
      go_ret
      exact ⟨ret_int (by omega), rfl⟩
    · have i2 : ¬ (n : Int) ≤ 57 := by omega
      rw [if_neg (by omega)]
      by_cases h3 : 97 ≤ n ∧ n ≤ 102
      · have i3 : (97 : Int) ≤ n := by omega
        have i4 : (n : Int) ≤ 102 := by omega
        have i5 : (0 : Int) ≤ (n : Int) - 97 := by omega
        have r1 : IntKind.u8.wrap ((n : Int) - 97) = (n : Int) - 97 := wrap_u8 (by omega) (by omega)
        rw [if_pos h3]
        go_enter Tryz.func42, Tryz.ntmps42
        go_wp2_with fail
        go_ret
        exact ⟨ret_int (by omega), rfl⟩
      · rw [if_neg h3]
        by_cases h4 : 97 ≤ n
        · have i3 : (97 : Int) ≤ n := by omega
          have i4 : ¬ (n : Int) ≤ 102 := by omega
          go_enter Tryz.func42, Tryz.ntmps42
          go_wp2_with fail
          go_ret
          exact ⟨rfl, rfl⟩
        · have i3 : ¬ (97 : Int) ≤ n := by omega
          go_enter Tryz.func42, Tryz.ntmps42
          go_wp2_with fail
          go_ret
          exact ⟨rfl, rfl⟩
  · have i1 : ¬ (48 : Int) ≤ n := by omega
    have i3 : ¬ (97 : Int) ≤ n := by omega
    rw [if_neg (by omega), if_neg (by omega)]
    go_enter Tryz.func42, Tryz.ntmps42
    go_wp2_with fail
    go_ret
    exact ⟨rfl, rfl⟩
end Go.Proofs.YtlljjddgbilipaaGreatDoor
