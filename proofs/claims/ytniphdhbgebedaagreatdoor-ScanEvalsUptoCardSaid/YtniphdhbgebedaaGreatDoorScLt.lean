/-
  scan's bytes: letter, digit.
-/
import Derived.Test.YtniphdhbgebedaaGreatDoorScOwn
import Derived.Test.YtniphdhbgebedaaGreatDoorScRd
namespace Go.Proofs.YtniphdhbgebedaaGreatDoor
open Go.RowKit Go.Maps

set_option linter.unusedSimpArgs false

theorem le_nat {a c : UInt8} : (a ≤ c) ↔ a.toNat ≤ c.toNat := UInt8.le_iff_toNat_le
theorem letB_iff (c : UInt8) : letB c = decide ((97 ≤ c.toNat ∧ c.toNat ≤ 122) ∨ (65 ≤ c.toNat ∧ c.toNat ≤ 90) ∨ c.toNat = 95 ∨ 128 ≤ c.toNat) := by
  have h95 : (c = 95) ↔ c.toNat = 95 := ⟨fun h => by rw [h]; rfl, fun h => UInt8.toNat_inj.1 h⟩
  unfold letB
  rw [Bool.eq_iff_iff]
  simp only [Bool.or_eq_true, Bool.and_eq_true, decide_eq_true_eq, beq_iff_eq, le_nat, h95]
  show _ ↔ _
  simp only [show (97 : UInt8).toNat = 97 from rfl, show (122 : UInt8).toNat = 122 from rfl, show (65 : UInt8).toNat = 65 from rfl, show (90 : UInt8).toNat = 90 from rfl, show (128 : UInt8).toNat = 128 from rfl]
  omega
theorem digB_iff (c : UInt8) : digB c = decide (48 ≤ c.toNat ∧ c.toNat ≤ 57) := by
  unfold digB
  rw [Bool.eq_iff_iff]
  simp only [Bool.and_eq_true, decide_eq_true_eq, le_nat]
  exact Iff.rfl
set_option maxHeartbeats 4000000 in
theorem letter_any (c : UInt8) (w : World) : Calls Tryz.prog 92 #[.int .u8 (c.toNat : Int)] w fun e w' => e = .returned (.bool (letB c)) ∧ w = w' := by
  obtain ⟨B, hB⟩ : ∃ B, B = letB c := ⟨_, rfl⟩
  rw [← hB]
  rw [letB_iff] at hB
  have HB := Lib.hid hB
  clear hB
  generalize c.toNat = n at *
  by_cases h1 : 97 ≤ n
  · have i1 : (97 : Int) ≤ n := by omega
    by_cases h2 : n ≤ 122
    · have i2 : (n : Int) ≤ 122 := by omega
      go_enter Tryz.func92, Tryz.ntmps92
      go_wp2_with fail
      go_ret
      exact ⟨ret_bool (by rw [HB.out]; first | (symm; rw [decide_eq_true_eq]; omega) | (symm; rw [decide_eq_false_iff_not]; omega)), rfl⟩
    · have i2 : ¬ (n : Int) ≤ 122 := by omega
      have i3 : (65 : Int) ≤ n := by omega
      have i4 : ¬ (n : Int) ≤ 90 := by omega
      have i5 : ((n : Int) == 95) = false := by rw [beq_eq_false_iff_ne]; omega
      by_cases h6 : 128 ≤ n
      · have i6 : (128 : Int) ≤ n := by omega
        go_enter Tryz.func92, Tryz.ntmps92
        go_wp2_with fail
        go_ret
        exact ⟨ret_bool (by rw [HB.out]; first | (symm; rw [decide_eq_true_eq]; omega) | (symm; rw [decide_eq_false_iff_not]; omega)), rfl⟩
      · have i6 : ¬ (128 : Int) ≤ n := by omega
        go_enter Tryz.func92, Tryz.ntmps92
        go_wp2_with fail
        go_ret
        exact ⟨ret_bool (by rw [HB.out]; first | (symm; rw [decide_eq_true_eq]; omega) | (symm; rw [decide_eq_false_iff_not]; omega)), rfl⟩
  · have i1 : ¬ (97 : Int) ≤ n := by omega
    have i6 : ¬ (128 : Int) ≤ n := by omega
    by_cases h3 : 65 ≤ n
    · have i3 : (65 : Int) ≤ n := by omega
      by_cases h4 : n ≤ 90
      · have i4 : (n : Int) ≤ 90 := by omega
        go_enter Tryz.func92, Tryz.ntmps92
        go_wp2_with fail
        go_ret
        exact ⟨ret_bool (by rw [HB.out]; first | (symm; rw [decide_eq_true_eq]; omega) | (symm; rw [decide_eq_false_iff_not]; omega)), rfl⟩
      · have i4 : ¬ (n : Int) ≤ 90 := by omega
        by_cases h5 : n = 95
        · have i5 : ((n : Int) == 95) = true := by rw [beq_iff_eq]; omega
          go_enter Tryz.func92, Tryz.ntmps92
          go_wp2_with fail
          go_ret
          exact ⟨ret_bool (by rw [HB.out]; first | (symm; rw [decide_eq_true_eq]; omega) | (symm; rw [decide_eq_false_iff_not]; omega)), rfl⟩
        · have i5 : ((n : Int) == 95) = false := by rw [beq_eq_false_iff_ne]; omega
          go_enter Tryz.func92, Tryz.ntmps92
          go_wp2_with fail
          go_ret
          exact ⟨ret_bool (by rw [HB.out]; first | (symm; rw [decide_eq_true_eq]; omega) | (symm; rw [decide_eq_false_iff_not]; omega)), rfl⟩
    · have i3 : ¬ (65 : Int) ≤ n := by omega
      have i5 : ((n : Int) == 95) = false := by rw [beq_eq_false_iff_ne]; omega
      go_enter Tryz.func92, Tryz.ntmps92
      go_wp2_with fail
      go_ret
      exact ⟨ret_bool (by rw [HB.out]; first | (symm; rw [decide_eq_true_eq]; omega) | (symm; rw [decide_eq_false_iff_not]; omega)), rfl⟩
theorem digit_any (c : UInt8) (w : World) : Calls Tryz.prog 93 #[.int .u8 (c.toNat : Int)] w fun e w' => e = .returned (.bool (digB c)) ∧ w = w' := by
  obtain ⟨B, hB⟩ : ∃ B, B = digB c := ⟨_, rfl⟩
  rw [← hB]
  rw [digB_iff] at hB
  have HB := Lib.hid hB
  clear hB
  generalize c.toNat = n at *
  by_cases h1 : 48 ≤ n
  · have i1 : (48 : Int) ≤ n := by omega
    by_cases h2 : n ≤ 57
    · have i2 : (n : Int) ≤ 57 := by omega
      go_enter Tryz.func93, Tryz.ntmps93
      go_wp2_with fail
      go_ret
      exact ⟨ret_bool (by rw [HB.out]; first | (symm; rw [decide_eq_true_eq]; omega) | (symm; rw [decide_eq_false_iff_not]; omega)), rfl⟩
    · have i2 : ¬ (n : Int) ≤ 57 := by omega
      go_enter Tryz.func93, Tryz.ntmps93
      go_wp2_with fail
      go_ret
      exact ⟨ret_bool (by rw [HB.out]; first | (symm; rw [decide_eq_true_eq]; omega) | (symm; rw [decide_eq_false_iff_not]; omega)), rfl⟩
  · have i1 : ¬ (48 : Int) ≤ n := by omega
    go_enter Tryz.func93, Tryz.ntmps93
    go_wp2_with fail
    go_ret
    exact ⟨ret_bool (by rw [HB.out]; first | (symm; rw [decide_eq_true_eq]; omega) | (symm; rw [decide_eq_false_iff_not]; omega)), rfl⟩
end Go.Proofs.YtniphdhbgebedaaGreatDoor
