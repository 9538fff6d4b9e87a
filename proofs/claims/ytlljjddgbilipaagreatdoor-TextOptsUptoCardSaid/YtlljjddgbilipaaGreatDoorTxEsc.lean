/-
  escaped: what stands behind a \.
-/
import Derived.Test.YtlljjddgbilipaaGreatDoorTxSpan
namespace Go.Proofs.YtlljjddgbilipaaGreatDoor
open Go.RowKit

set_option linter.unusedSimpArgs false

attribute [local go_sem] lt1 lt2 lt3 lt4 lt5 lt6

def hexB : ByteArray := ⟨#[48, 49, 50, 51, 52, 53, 54, 55, 56, 57, 97, 98, 99, 100, 101, 102]⟩
theorem hex_index (c : UInt8) : Lib.indexByte hexB.data.toList c = placeI c := by
  revert c
  exact forall_u8 (by decide +kernel)
theorem hex_call (c : UInt8) (w : World) : Calls Tryz.prog 67 #[.string ⟨#[48, 49, 50, 51, 52, 53, 54, 55, 56, 57, 97, 98, 99, 100, 101, 102]⟩, .int .u8 (c.toNat : Nat)] w fun e w' => e = .returned (.int .i64 (placeI c)) ∧ w' = w := by
  refine (Tryz.strings_IndexByte hexB (c.toNat : Nat) w).mono fun e w' ⟨he, hw⟩ => ⟨?_, hw⟩
  rw [he, Int.toNat_natCast, show c.toNat.toUInt8 = c from UInt8.ofNat_toNat, hex_index]
theorem place_of (c : UInt8) : hexV c = none ∧ placeI c = -1 ∨ ∃ a, hexV c = some a ∧ a < 16 ∧ placeI c = a := by
  unfold placeI
  cases h : hexV c with
  | none => exact .inl ⟨rfl, rfl⟩
  | some a =>
    refine .inr ⟨a, rfl, ?_, rfl⟩
    unfold hexV at h
    split at h
    · cases h; omega
    · split at h
      · cases h; omega
      · cases h
theorem uniL_no {h l : UInt8} {r : List UInt8} (hn : hexV h = none ∨ hexV l = none) : uniL (117 :: 48 :: 48 :: h :: l :: r) = none := by
  show (match hexV h, hexV l with
    | some a, some b => if oddB (UInt8.ofNat (16 * a + b)) then some (UInt8.ofNat (16 * a + b), 5) else none
    | _, _ => none) = _
  rcases hn with hn | hn
  · rw [hn]
  · rw [hn]
    cases hexV h <;> rfl
def escV (s : ByteArray) : Value := match escL (toL s) with
  | none => .tuple #[.int .u8 0, .int .i64 0]
  | some (c, n) => .tuple #[.int .u8 (c.toNat : Nat), .int .i64 (n : Nat)]
set_option maxRecDepth 100000 in
set_option maxHeartbeats 2000000 in
theorem escaped_any (w : World) (s : ByteArray) (hl : s.size ≤ 1048576) :
    Calls Tryz.prog 55 #[.string s] w fun e w' => e = .returned (escV s) ∧ ∃ n, w' = w.drewN n := by
  by_cases h0 : toL s = []
  · have e0 : (s.toList == []) = true := by rw [toList_toL, h0]; rfl
    have e1 : (s.toList != []) = false := by rw [toList_toL, h0]; rfl
    have hs : s.size = 0 := by rw [← toL_len, h0]; rfl
    have hsI : (s.size : Int) < 5 := by omega
    go_enter Tryz.func55, Tryz.ntmps55
    go_wp2_with fail
    go_ret2
    refine ⟨?_, 0, rfl⟩
    unfold escV
    rw [h0]
    rfl
  obtain ⟨c, r, hcr⟩ : ∃ c r, toL s = c :: r := by cases h : toL s with | nil => exact absurd h h0 | cons c r => exact ⟨c, r, rfl⟩
  have e0 : (s.toList == []) = false := by rw [toList_toL, hcr]; rfl
  have e1 : (s.toList != []) = true := by rw [toList_toL, hcr]; rfl
  have hs : s.size = r.length + 1 := by rw [← toL_len, hcr]; rfl
  have h0s : 0 < s.size := by omega
  have hb := str_byte h0s
  rw [hcr] at hb
  simp only [List.getD_cons_zero] at hb
  have h0I : (0 : Int) < s.size := by omega
  have Hcr := Lib.hid hcr
  have Hs := Lib.hid hs
  clear hcr h0 hs
  by_cases h34 : c = 34
  · subst h34
    go_enter Tryz.func55, Tryz.ntmps55
    go_wp2_with fail
    go_ret2
    refine ⟨?_, 0, rfl⟩
    unfold escV
    rw [Hcr.out]
    rfl
  by_cases h92 : c = 92
  · subst h92
    go_enter Tryz.func55, Tryz.ntmps55
    go_wp2_with fail
    go_ret2
    refine ⟨?_, 0, rfl⟩
    unfold escV
    rw [Hcr.out]
    rfl
  have n34 : ((c.toNat : Int) == 34) = false := by rw [beq_eq_false_iff_ne]; intro h; exact h34 (UInt8.toNat_inj.1 (by show c.toNat = 34; omega))
  have n92 : ((c.toNat : Int) == 92) = false := by rw [beq_eq_false_iff_ne]; intro h; exact h92 (UInt8.toNat_inj.1 (by show c.toNat = 92; omega))
  have Hesc : Hid (escL (toL s) = uniL (c :: r)) := Lib.hid (by rw [Hcr.out, escL_cons, if_neg (by simp [h34, h92])])
  clear h34 h92
  by_cases h5 : s.size < 5
  · have h5I : (s.size : Int) < 5 := by omega
    have Hnone : Hid (escL (toL s) = none) := Lib.hid (by
      rw [Hesc.out]
      rcases r with _ | ⟨a, _ | ⟨b, _ | ⟨d, _ | ⟨e, r⟩⟩⟩⟩ <;> first | rfl | (have hs := Hs.out; simp at hs; omega) | (unfold uniL; split <;> first | rfl | simp_all))
    go_enter Tryz.func55, Tryz.ntmps55
    go_wp2_with fail
    go_ret2
    refine ⟨?_, 0, rfl⟩
    unfold escV
    rw [Hnone.out]
    rfl
  obtain ⟨b1, b2, h, l, r4, hr⟩ : ∃ b1 b2 h l r4, r = b1 :: b2 :: h :: l :: r4 := by
    rcases r with _ | ⟨a, _ | ⟨b, _ | ⟨d, _ | ⟨e, r⟩⟩⟩⟩
    · have hs := Hs.out; simp at hs; omega
    · have hs := Hs.out; simp at hs; omega
    · have hs := Hs.out; simp at hs; omega
    · have hs := Hs.out; simp at hs; omega
    · exact ⟨a, b, d, e, r, rfl⟩
  subst hr
  have h5I : ¬ (s.size : Int) < 5 := by omega
  have h3I : (3 : Int) ≤ s.size := by omega
  have hx : toL (s.extract 0 3) = [c, b1, b2] := by rw [toL_extract, Hcr.out]; rfl
  by_cases hu : [c, b1, b2] = [117, 48, 48]
  case neg =>
    have e3 : ((s.extract 0 3).toList == [117, 48, 48]) = false := by rw [toList_toL, hx, beq_eq_false_iff_ne]; exact hu
    have Hnone : Hid (escL (toL s) = none) := Lib.hid (by
      rw [Hesc.out]
      unfold uniL
      split
      · rename_i heq
        simp only [List.cons.injEq] at heq
        exact absurd (by rw [heq.1, heq.2.1, heq.2.2.1]) hu
      · rfl)
    clear hu hx
    go_enter Tryz.func55, Tryz.ntmps55
    go_wp2_with fail
    go_ret2
    refine ⟨?_, 0, rfl⟩
    unfold escV
    rw [Hnone.out]
    rfl
  have e3 : ((s.extract 0 3).toList == [117, 48, 48]) = true := by rw [toList_toL, hx, hu]; rfl
  simp only [List.cons.injEq, and_true] at hu
  obtain ⟨rfl, rfl, rfl⟩ := hu
  have h3s : 3 < s.size := by omega
  have h4s : 4 < s.size := by omega
  have b3 := str_byte h3s
  have b4 := str_byte h4s
  rw [Hcr.out] at b3 b4
  simp only [List.getD_cons_zero, List.getD_cons_succ] at b3 b4
  have h3sI : (3 : Int) < s.size := by omega
  have h4sI : (4 : Int) < s.size := by omega
  clear hx
  go_enter Tryz.func55, Tryz.ntmps55
  go_wp2_with fail
  go_quiet (first | (go_at_call 67; exact Calls.quiet_of_same (hex_call h _)) | (go_at_call 67; exact Calls.quiet_of_same (hex_call l _)))
  have Ha : Hid (hexV h = none ∧ placeI h = -1 ∨ ∃ a, hexV h = some a ∧ a < 16 ∧ placeI h = (a : Nat)) := Lib.hid (place_of h)
  have Hb : Hid (hexV l = none ∧ placeI l = -1 ∨ ∃ a, hexV l = some a ∧ a < 16 ∧ placeI l = (a : Nat)) := Lib.hid (place_of l)
  rcases Ha.out with ⟨a1, a2⟩ | ⟨a, a1, a2, a3⟩
  · have Hnone : Hid (escL (toL s) = none) := Lib.hid (by rw [Hesc.out]; exact uniL_no (.inl a1))
    generalize placeI h = p at *
    generalize placeI l = q at *
    subst a2
    clear a1
    go_wp2_with fail
    go_ret2
    refine ⟨?_, _, rfl⟩
    unfold escV
    rw [Hnone.out]
    rfl
  · rcases Hb.out with ⟨b1, b2⟩ | ⟨b, b1, b2, b5⟩
    · have Hnone : Hid (escL (toL s) = none) := Lib.hid (by rw [Hesc.out]; exact uniL_no (.inr b1))
      generalize placeI h = p at *
      generalize placeI l = q at *
      subst a3 b2
      have hp : ¬ (a : Int) < 0 := by omega
      clear a1 b1
      go_wp2_with fail
      go_ret2
      refine ⟨?_, _, rfl⟩
      unfold escV
      rw [Hnone.out]
      rfl
    · have hX : ((UInt8.ofNat (16 * a + b)).toNat : Int) = 16 * (a : Int) + b := by
        rw [UInt8.toNat_ofNat']
        omega
      have r1 : (16 * (a : Int) + b) % 256 = 16 * a + b := by omega
      have Hu : Hid (uniL (117 :: 48 :: 48 :: h :: l :: r4) = if oddB (UInt8.ofNat (16 * a + b)) then some (UInt8.ofNat (16 * a + b), 5) else none) := Lib.hid (uniL_hex a1 b1 _)
      generalize placeI h = p at *
      generalize placeI l = q at *
      subst a3 b5
      have hp : ¬ (a : Int) < 0 := by omega
      have hq : ¬ (b : Int) < 0 := by omega
      have Hodd : Hid (∀ w, Calls Tryz.prog 54 #[.int .u8 (16 * (a : Int) + b)] w fun e w' => e = .returned (.bool (oddB (UInt8.ofNat (16 * a + b)))) ∧ w = w') := Lib.hid (fun w => by
        have := odd_any (UInt8.ofNat (16 * a + b)) w
        rwa [hX] at this)
      have HX := Lib.hid hX
      clear a1 b1 hX
      go_wp2_with fail
      refine (Hodd.out _).mono ?_
      rintro e w1 ⟨rfl, rfl⟩
      cases ho : oddB (UInt8.ofNat (16 * a + b)) with
      | true =>
        have Hsome : Hid (escL (toL s) = some (UInt8.ofNat (16 * a + b), 5)) := Lib.hid (by rw [Hesc.out, Hu.out, ho]; rfl)
        clear ho
        go_wp2_with fail
        go_ret2
        refine ⟨?_, _, rfl⟩
        unfold escV
        rw [Hsome.out]
        simp only
        rw [HX.out]
        rfl
      | false =>
        have Hnone : Hid (escL (toL s) = none) := Lib.hid (by rw [Hesc.out, Hu.out, ho]; rfl)
        clear ho
        go_wp2_with fail
        go_ret2
        refine ⟨?_, _, rfl⟩
        unfold escV
        rw [Hnone.out]
        rfl
end Go.Proofs.YtlljjddgbilipaaGreatDoor
