/-
  The law's first part: the values that are written in it. (Printed by wip/abexp.py.)
-/
import Derived.Test.YtdmladdpbdcpjaaDoorArkP0
import Derived.Test.YtdmladdpbdcpjaaDoorArkHexes
import Derived.Test.YtdmladdpbdcpjaaDoorArkB64
import Derived.Test.YtdmladdpbdcpjaaDoorArkCrc
import Derived.Test.YtdmladdpbdcpjaaDoorArkLnA
import Derived.Lib.SlBytesConst
namespace Go.Proofs.YtdmladdpbdcpjaaDoor
open Go.RowKit

set_option linter.unusedSimpArgs false

attribute [local go_sem] lt1 lt2 lt3 lt4 lt5 lt6

def modText : List UInt8 := [109, 111, 100, 117, 108, 101, 32, 97, 46, 98, 47, 99, 10]
theorem hex_abc : (⟨(hexOf (sha [97, 98, 99])).toArray⟩ : ByteArray) = ⟨#[98, 97, 55, 56, 49, 54, 98, 102, 56, 102, 48, 49, 99, 102, 101, 97, 52, 49, 52, 49, 52, 48, 100, 101, 53, 100, 97, 101, 50, 50, 50, 51, 98, 48, 48, 51, 54, 49, 97, 51, 57, 54, 49, 55, 55, 97, 57, 99, 98, 52, 49, 48, 102, 102, 54, 49, 102, 50, 48, 48, 49, 53, 97, 100]⟩ := by
  rw [show hexOf (sha [97, 98, 99]) = [98, 97, 55, 56, 49, 54, 98, 102, 56, 102, 48, 49, 99, 102, 101, 97, 52, 49, 52, 49, 52, 48, 100, 101, 53, 100, 97, 101, 50, 50, 50, 51, 98, 48, 48, 51, 54, 49, 97, 51, 57, 54, 49, 55, 55, 97, 57, 99, 98, 52, 49, 48, 102, 102, 54, 49, 102, 50, 48, 48, 49, 53, 97, 100] by decide +kernel]
theorem b64_ab' : (⟨(b64 [97, 98]).toArray⟩ : ByteArray) = ⟨#[89, 87, 73, 61]⟩ := by
  rw [show b64 [97, 98] = [89, 87, 73, 61] by decide +kernel]
theorem sum_mod : (⟨(sumOf [(goMod, modText)]).toArray⟩ : ByteArray) = ⟨#[104, 49, 58, 71, 66, 51, 86, 43, 82, 72, 89, 74, 48, 70, 104, 53, 121, 86, 100, 107, 114, 47, 70, 74, 50, 78, 76, 120, 120, 85, 47, 106, 99, 81, 102, 79, 117, 101, 74, 51, 49, 88, 99, 69, 80, 69, 61]⟩ := by
  rw [show sumOf [(goMod, modText)] = [104, 49, 58, 71, 66, 51, 86, 43, 82, 72, 89, 74, 48, 70, 104, 53, 121, 86, 100, 107, 114, 47, 70, 74, 50, 78, 76, 120, 120, 85, 47, 106, 99, 81, 102, 79, 117, 101, 74, 51, 49, 88, 99, 69, 80, 69, 61] by decide +kernel]
theorem Bs_made (w : World) (x : List UInt8) (fr : Nat × Nat) (hl : x.length ≤ maxLen) : Bs (w.alloc (.cells (u8s x).toArray 5 fr)) (some ⟨w.heap.size, 0, none⟩) x.length x := by
  refine ⟨by simp [u8s], by simp, Nat.le_refl _, hl, fun _ => ⟨w.heap.size, 0, rfl, fun j hj => ?_⟩⟩
  have := heap_alloc_new w (.cells (u8s x).toArray 5 fr)
  show (match (w.alloc (.cells (u8s x).toArray 5 fr)).heap[w.heap.size]? with | some (.cells c _ _) => c[0 + j]? | _ => none) = _
  rw [this]
  simp
set_option maxHeartbeats 4000000 in
set_option maxRecDepth 100000 in
theorem first_any (w : World) (hm : MaxL w) : Calls Tryd.prog 10 #[] w fun e w' => e = .returned (.bool true) ∧ Below w.heap.size w w' := by
  have kc := fun (w : World) (C : Array Value) (n c : Nat) => Lib.run_convert_bytes_const (P := Tryd.prog) w 28 5 C n c Tryd.underlying28 Tryd.underlying5
  go_enter Tryd.func10, Tryd.ntmps10
  go_wp2_with fail
  refine (packed_nil w hm).mono ?_
  rintro e w1 ⟨⟨A0, c0, rfl⟩, hb⟩
  have Hb := Lib.hid hb
  clear hb
  go_wp2_with fail
  refine (sha_any _ [97, 98, 99] _ _ (Bs_made w1 [97, 98, 99] (3, 4) (by decide)) (by decide)).mono ?_
  rintro e w2 ⟨v, rfl, hown, hb⟩
  have Hb2 := Lib.hid (Hb.out.trans ((((Below.refl w1.heap.size w1).alloc (Nat.le_refl _) (.cells (u8s [97, 98, 99]).toArray 5 (3, 4))).trans (hb.mono (by simp))).mono Hb.out.size))
  obtain ⟨A1, c1, rfl, hbs⟩ := own_bs hown
  clear hb hown Hb
  have hx := hex_any w2 _ A1 c1 hbs (by rw [sha_len]; decide)
  rw [hex_abc] at hx
  generalize (sha [97, 98, 99]).length = n1 at *
  clear hbs
  go_wp2_with fail
  refine hx.mono ?_
  rintro e w3 ⟨rfl, hb⟩
  have Hb3 := Lib.hid (Hb2.out.trans (hb.mono Hb2.out.size))
  clear hb hx Hb2
  go_wp2_with fail
  have hx := crc_any _ [97, 98, 99] _ _ (Bs_made w3 [97, 98, 99] (3, 4) (by decide))
  rw [crc_abc] at hx
  refine hx.mono ?_
  rintro e w4 ⟨rfl, hw4⟩
  have Hb4 := Lib.hid (Hb3.out.trans ((((Below.refl w3.heap.size w3).alloc (Nat.le_refl _) (.cells (u8s [97, 98, 99]).toArray 5 (3, 4))).mono Hb3.out.size)))
  rw [← hw4] at Hb4
  clear hw4 hx Hb3
  go_wp2_with fail
  have hx := base64_any _ [97, 98] _ _ (Bs_made w4 [97, 98] (2, 3) (by decide)) (by decide)
  rw [b64_ab'] at hx
  refine hx.mono ?_
  rintro e w5 ⟨rfl, hb⟩
  have Hb5 := Lib.hid (Hb4.out.trans (((((Below.refl w4.heap.size w4).alloc (Nat.le_refl _) (.cells (u8s [97, 98]).toArray 5 (2, 3)))).trans (hb.mono (by simp))).mono Hb4.out.size))
  clear hb hx Hb4
  go_wp2_with fail
  have hx := manifest_any _ _ _ modText (Bs_made w5 modText (13, 14) (by decide)) (by decide)
  unfold SumPost at hx
  rw [sum_mod] at hx
  refine hx.mono ?_
  rintro e w6 ⟨rfl, hb⟩
  have Hb6 := Lib.hid (Hb5.out.trans (((((Below.refl w5.heap.size w5).alloc (Nat.le_refl _) (.cells (u8s modText).toArray 5 (13, 14)))).trans (hb.mono (by simp))).mono Hb5.out.size))
  clear hb hx Hb5
  go_wp2_with fail
  refine (num_any 0 _).mono ?_
  rintro e w7 ⟨rfl, rfl⟩
  go_wp2_with fail
  go_ret
  exact ⟨rfl, Hb6.out⟩
end Go.Proofs.YtdmladdpbdcpjaaDoor
