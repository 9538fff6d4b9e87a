/-
  CRC-32: the package's and the reference's.
-/
import Derived.Test.YtdmladdpbdcpjaaDoorArkFns
import Derived.RegionTactic
import Derived.Deep.RegionWith
import Derived.Deep.RegionHeld3
namespace Go.Proofs.YtdmladdpbdcpjaaDoor
open Go.RowKit

attribute [local go_sem] lt1 lt2 lt3 lt4 lt5 lt6

def crcIter (c : Nat) : Nat → Nat
  | 0 => c
  | n + 1 => crcBit (crcIter c n)
theorem crcIter_eight (c : Nat) (x : UInt8) : crcIter (c ^^^ x.toNat) 8 = crcByte c x := rfl
theorem crcBit_lt {c : Nat} (h : c < 4294967296) : crcBit c < 4294967296 := by
  unfold crcBit
  split
  · exact xor_lt (div_lt h _) (by decide)
  · exact div_lt h _
theorem crcIter_lt {c : Nat} (h : c < 4294967296) : ∀ n, crcIter c n < 4294967296
  | 0 => h
  | n + 1 => crcBit_lt (crcIter_lt h n)
theorem crcByte_lt {c : Nat} (h : c < 4294967296) (x : UInt8) : crcByte c x < 4294967296 := by
  rw [← crcIter_eight]
  exact crcIter_lt (xor_lt h (by have := x.toNat_lt; omega)) _
theorem crcFold_lt : ∀ (b : List UInt8) {c : Nat}, c < 4294967296 → b.foldl crcByte c < 4294967296
  | [], _, h => h
  | x :: l, _, h => crcFold_lt l (crcByte_lt h x)
theorem crcFold_step (b : List UInt8) (c : Nat) {i : Nat} (h : i < b.length) : (b.take (i + 1)).foldl crcByte c = crcByte ((b.take i).foldl crcByte c) (b.getD i 0) := by
  rw [List.take_add_one, List.getElem?_eq_getElem h, List.foldl_append]
  simp [List.getD_eq_getElem?_getD, List.getElem?_eq_getElem h]
theorem low_int (c : Nat) (h : c < 4294967296) : bits BinOp.and IntKind.u32 (c : Int) 1 = ((c % 2 : Nat) : Int) := by
  have := u32_and_nat c 1 h (by omega)
  rw [Nat.and_one_is_mod] at this
  exact this
theorem poly_int (c : Nat) (h : c < 4294967296) : bits BinOp.xor IntKind.u32 ((c : Int) / 2) 3988292384 = ((c / 2 ^^^ 0xedb88320 : Nat) : Int) := by
  have := u32_xor_nat (c / 2) 3988292384 (div_lt h _) (by omega)
  rw [← this]
  rfl
theorem not_int (c : Nat) (h : c < 4294967296) : bits BinOp.xor IntKind.u32 IntKind.u32.max (c : Int) = ((4294967295 - c : Nat) : Int) := by
  have h1 : (BitVec.allOnes 32 ^^^ BitVec.ofNat 32 c) = ~~~ (BitVec.ofNat 32 c) := by rw [BitVec.allOnes_xor]
  have h2 := congrArg BitVec.toNat h1
  rw [BitVec.toNat_xor, BitVec.toNat_not, BitVec.toNat_allOnes, BitVec.toNat_ofNat, Nat.mod_eq_of_lt (by omega)] at h2
  rw [show IntKind.u32.max = ((4294967295 : Nat) : Int) from rfl, u32_xor_nat _ _ (by omega) h]
  congr 1

def CrcRel (w : World) (b : List UInt8) (cv iv : Value) (wr : World) : Prop :=
  ∃ i, i ≤ b.length ∧ iv = .int .i64 (i : Nat) ∧ cv = .int .u32 ((b.take i).foldl crcByte 4294967295 : Nat) ∧ w = wr
def BitRel (w : World) (c : Nat) (cv kv : Value) (wr : World) : Prop :=
  ∃ k, k ≤ 8 ∧ kv = .int .i64 (k : Nat) ∧ cv = .int .u32 (crcIter c k : Nat) ∧ w = wr
theorem bit_odd {w : World} {c k : Nat} (hk : k < 8) (h : crcIter c k % 2 = 1) : BitRel w c (.int .u32 (crcIter c k / 2 ^^^ 0xedb88320 : Nat)) (.int .i64 ((k : Int) + 1)) w :=
  ⟨k + 1, by omega, rfl, by rw [crcIter, crcBit, if_pos h], rfl⟩
theorem bit_even {w : World} {c k : Nat} (hk : k < 8) (h : ¬crcIter c k % 2 = 1) : BitRel w c (.int .u32 ((crcIter c k : Int) / 2)) (.int .i64 ((k : Int) + 1)) w :=
  ⟨k + 1, by omega, rfl, by rw [crcIter, crcBit, if_neg h]; rfl, rfl⟩
theorem crc_step {w : World} {b : List UInt8} {i : Nat} (hi : i < b.length) : CrcRel w b (.int .u32 (crcIter ((b.take i).foldl crcByte 4294967295 ^^^ (b.getD i 0).toNat) 8 : Nat)) (.int .i64 ((i : Int) + 1)) w :=
  ⟨i + 1, by omega, rfl, by rw [crcFold_step b _ hi, crcIter_eight], rfl⟩

set_option maxHeartbeats 2000000 in
theorem crc_any (w : World) (b : List UInt8) (A : Option Addr) (c : Nat) (hb : Bs w A c b) :
    Calls Tryd.prog 35 #[.slice A b.length c] w fun e w' => e = .returned (.int .u32 (crcOf b : Nat)) ∧ w' = w := by
  have hcap := hb.le
  have hlen := hb.len_le
  go_enter Tryd.func35, Tryd.ntmps35
  go_wp2_with fail
  go_loopw [3, 9] (fun cv iv wr => CrcRel w b cv iv wr) (fun _ iv _ => b.length - (intOf iv).toNat)
  case atStart => exact ⟨0, by omega, rfl, rfl, rfl⟩
  case round =>
    obtain ⟨i, hi, rfl, rfl, rfl⟩ := hrel
    have y := crcFold_lt (b.take i) (c := 4294967295) (by decide)
    by_cases hlt : i < b.length
    · obtain ⟨bb, oo, rfl, e0⟩ := hb.at_ hlt
      have Hst := Lib.hid (crc_step (w := w) (b := b) hlt)
      have hx := (b.getD i 0).toNat_lt
      generalize (b.getD i 0).toNat = xv at *
      generalize (b.take i).foldl crcByte 4294967295 = cc at *
      have hxor := u32_xor_nat cc xv y (by omega)
      have hxm : (xv : Int) % 4294967296 = xv := by omega
      have yy := xor_lt y (show xv < 4294967296 by omega)
      have Hcc := Lib.hid y
      clear y hx
      have hi1 : (0 : Int) ≤ i := by omega
      have hi2 : (i : Int) < b.length := by omega
      go_wp2_with fail
      clear hxm hxor
      generalize cc ^^^ xv = c0 at *
      go_loopw [3, 17] (fun cv kv wr => BitRel w c0 cv kv wr) (fun _ kv _ => 8 - (intOf kv).toNat)
      case atStart => exact ⟨0, by omega, rfl, rfl, rfl⟩
      case round =>
        obtain ⟨k, hk, rfl, rfl, rfl⟩ := hrel
        by_cases hk8 : k < 8
        · have yk := crcIter_lt yy k
          have hlow := low_int _ yk
          have Hpoly := Lib.hid (poly_int _ yk)
          have hj1 : (0 : Int) ≤ k := by omega
          have hj2 : (k : Int) < 8 := by omega
          by_cases hodd : crcIter c0 k % 2 = 1
          · have Hs := Lib.hid (bit_odd (w := w) hk8 hodd)
            rw [hodd] at hlow
            clear hodd yk
            generalize crcIter c0 k = ck at *
            go_wp2_with fail
            rw [Hpoly.out]
            exact ⟨Hs.out, by simp [intOf]; omega⟩
          · have Hs := Lib.hid (bit_even (w := w) hk8 hodd)
            rw [show crcIter c0 k % 2 = 0 by omega] at hlow
            clear hodd yk
            generalize crcIter c0 k = ck at *
            go_wp2_with fail
            exact ⟨Hs.out, by simp [intOf]; omega⟩
        · obtain rfl : k = 8 := by omega
          generalize crcIter c0 8 = c8 at *
          go_wp2_with fail
          exact ⟨Hst.out, by simp [intOf]; omega⟩
    · obtain rfl : i = b.length := by omega
      rw [List.take_length] at y ⊢
      have Hnot := Lib.hid (not_int _ y)
      have Hcrc : Hid (crcOf b = 4294967295 - b.foldl crcByte 4294967295) := Lib.hid rfl
      generalize b.foldl crcByte 4294967295 = cf at *
      go_wp2_with fail
      rw [Hnot.out, ← Hcrc.out]
      go_ret
      exact ⟨rfl, rfl⟩
set_option maxHeartbeats 2000000 in
theorem crc_ref (w : World) (b : List UInt8) (A : Option Addr) (c : Nat) (hb : Bs w A c b) :
    Calls Tryd.prog 36 #[.slice A b.length c] w fun e w' => e = .returned (.int .u32 (crcOf b : Nat)) ∧ w' = w := by
  have hcap := hb.le
  have hlen := hb.len_le
  go_enter Tryd.func36, Tryd.ntmps36
  go_wp2_with fail
  go_loopw [3, 4] (fun cv iv wr => CrcRel w b cv iv wr) (fun _ iv _ => b.length - (intOf iv).toNat)
  case atStart => exact ⟨0, by omega, rfl, rfl, rfl⟩
  case round =>
    obtain ⟨i, hi, rfl, rfl, rfl⟩ := hrel
    have y := crcFold_lt (b.take i) (c := 4294967295) (by decide)
    by_cases hlt : i < b.length
    · obtain ⟨bb, oo, rfl, e0⟩ := hb.at_ hlt
      have Hst := Lib.hid (crc_step (w := w) (b := b) hlt)
      have hx := (b.getD i 0).toNat_lt
      generalize (b.getD i 0).toNat = xv at *
      generalize (b.take i).foldl crcByte 4294967295 = cc at *
      have hxor := u32_xor_nat cc xv y (by omega)
      have hxm : (xv : Int) % 4294967296 = xv := by omega
      have yy := xor_lt y (show xv < 4294967296 by omega)
      have Hcc := Lib.hid y
      clear y hx
      have hi1 : (0 : Int) ≤ i := by omega
      have hi2 : (i : Int) < b.length := by omega
      go_wp2_with fail
      clear hxm hxor
      generalize cc ^^^ xv = c0 at *
      go_loopw [3, 5] (fun cv kv wr => BitRel w c0 cv kv wr) (fun _ kv _ => 8 - (intOf kv).toNat)
      case atStart => exact ⟨0, by omega, rfl, rfl, rfl⟩
      case round =>
        obtain ⟨k, hk, rfl, rfl, rfl⟩ := hrel
        by_cases hk8 : k < 8
        · have yk := crcIter_lt yy k
          have hlow := low_int _ yk
          have Hpoly := Lib.hid (poly_int _ yk)
          have hj1 : (0 : Int) ≤ k := by omega
          have hj2 : (k : Int) < 8 := by omega
          by_cases hodd : crcIter c0 k % 2 = 1
          · have Hs := Lib.hid (bit_odd (w := w) hk8 hodd)
            have hlow2 : ((crcIter c0 k : Nat) : Int) % 2 = 1 := by omega
            clear hlow
            clear hodd
            generalize crcIter c0 k = ck at *
            go_wp2_with fail
            rw [Hpoly.out]
            exact ⟨Hs.out, by simp [intOf]; omega⟩
          · have Hs := Lib.hid (bit_even (w := w) hk8 hodd)
            have hlow2 : ((crcIter c0 k : Nat) : Int) % 2 = 0 := by omega
            clear hlow
            clear hodd
            generalize crcIter c0 k = ck at *
            go_wp2_with fail
            exact ⟨Hs.out, by simp [intOf]; omega⟩
        · obtain rfl : k = 8 := by omega
          generalize crcIter c0 8 = c8 at *
          go_wp2_with fail
          exact ⟨Hst.out, by simp [intOf]; omega⟩
    · obtain rfl : i = b.length := by omega
      rw [List.take_length] at y ⊢
      have Hnot := Lib.hid (not_int _ y)
      have Hcrc : Hid (crcOf b = 4294967295 - b.foldl crcByte 4294967295) := Lib.hid rfl
      generalize b.foldl crcByte 4294967295 = cf at *
      go_wp2_with fail
      rw [Hnot.out, ← Hcrc.out]
      go_ret
      exact ⟨rfl, rfl⟩
end Go.Proofs.YtdmladdpbdcpjaaDoor
