/-
  Digits: the package's, by a strings.Builder.
-/
import Derived.Test.YtfbdjfljgcfikaaDoorArkHex
import Derived.Test.YtfbdjfljgcfikaaDoorBuild
namespace Go.Proofs.YtfbdjfljgcfikaaDoor
open Go.RowKit

attribute [local go_sem] lt1 lt2 lt3 lt4 lt5 lt6

/-- a builder of the call's own holds the bytes l -/
def Bld (w : World) (l : List UInt8) (wr : World) : Prop := Lib.IsBuilder 98 5 w.heap.size w.heap.size (u8s l) wr ∧ Below w.heap.size w wr
theorem Bld.fresh (w : World) : Bld w [] (w.alloc (.cells #[.pointer none, .slice none 0 0] 98)) := ⟨Lib.fresh_isBuilder _ _ w, (Below.refl _ _).alloc (Nat.le_refl _) _⟩
theorem Bld.write {w wr : World} {l : List UInt8} (h : Bld w l wr) (hl : l.length ≤ 100000000) (x : UInt8) {c : Int} (hc : c = (x.toNat : Nat)) :
    Calls Tryd.prog 66 #[.pointer (some ⟨w.heap.size, 0, none⟩), .int .u8 c] wr fun e w' => e = .returned .nilIface ∧ Bld w (l ++ [x]) w' := by
  subst hc
  refine (Tryd.write_byte w.heap.size w.heap.size (u8s l) (x.toNat : Nat) wr h.1 (by rw [u8s_length]; omega) h.2.size).mono ?_
  rintro e w' ⟨rfl, hb, hB⟩
  refine ⟨rfl, .inr ?_, h.2.trans hB⟩
  simpa [u8s] using hb
theorem Bld.string {w wr : World} {l : List UInt8} (h : Bld w l wr) : Calls Tryd.prog 67 #[.pointer (some ⟨w.heap.size, 0, none⟩)] wr fun e w' => e = .returned (.string ⟨l.toArray⟩) ∧ Below w.heap.size w w' :=
  (Tryd.builder_string w.heap.size w.heap.size l wr h.1 h.2.size).mono fun _ _ ⟨he, hB⟩ => ⟨he, h.2.trans hB⟩
def HexB (w : World) (b : List UInt8) (iv : Value) (wr : World) : Prop := ∃ i, i ≤ b.length ∧ iv = .int .i64 (i : Nat) ∧ Bld w (hexOf (b.take i)) wr

set_option maxHeartbeats 2000000 in
set_option maxRecDepth 100000 in
theorem hex_any (w : World) (b : List UInt8) (A : Option Addr) (c : Nat) (hb : Bs w A c b) (hl : b.length ≤ 1048576) :
    Calls Tryd.prog 36 #[.slice A b.length c] w fun e w' => e = .returned (.string ⟨(hexOf b).toArray⟩) ∧ Below w.heap.size w w' := by
  have hcap := hb.le
  have Hb := Lib.hid hb
  clear hb
  go_enter Tryd.func36, Tryd.ntmps36
  go_wp2_with fail
  have H0 := Lib.hid (Bld.fresh w)
  go_loopw [8] (fun iv wr => HexB w b iv wr) (fun iv _ => b.length - (intOf iv).toNat)
  case atStart => exact ⟨0, by omega, rfl, H0.out⟩
  case round =>
    obtain ⟨i, hi, rfl, hown⟩ := hrel
    have Hown := Lib.hid hown
    clear hown
    by_cases hlt : i < b.length
    · obtain ⟨bb, oo, rfl, e0⟩ := Hb.out.at_ hlt
      have f0 := Cells.of_below Hown.out.2 _ _ e0
      have hx := (b.getD i 0).toNat_lt
      have hstep := hexOf_step b hlt
      have hlen := hexOf_length (b.take i)
      rw [List.length_take] at hlen
      obtain ⟨xv, hxv⟩ : ∃ x, x = b.getD i 0 := ⟨_, rfl⟩
      rw [← hxv] at f0 hx hstep
      clear e0 hxv
      have hi1 : (0 : Int) ≤ i := by omega
      have hi2 : (i : Int) < b.length := by omega
      have hd1 : xv.toNat / 16 < 16 := by omega
      have hd2 : xv.toNat % 16 < 16 := by omega
      have hv1 := fun hb => hexAtI (z := (xv.toNat : Int) / 16) (n := xv.toNat / 16) (by omega) hd1 hb
      have hv2 := fun hb => hexAtI (z := (xv.toNat : Int) % 16) (n := xv.toNat % 16) (by omega) hd2 hb
      generalize digits16.getD (xv.toNat / 16) 0 = d1 at *
      generalize digits16.getD (xv.toNat % 16) 0 = d2 at *
      have Hstep := Lib.hid hstep
      generalize hexOf (b.take i) = T at *
      have Hlen : Hid (T.length ≤ 2097152) := Lib.hid (by omega)
      clear hstep hlen hd1 hd2
      go_wp2_with fail
      refine (Hown.out.write (by have := Hlen.out; omega) d1 rfl).mono ?_
      rintro e w1 ⟨rfl, h1⟩
      have H1 := Lib.hid h1
      clear h1 Hown f0
      go_wp2_with fail
      refine (H1.out.write (by have := Hlen.out; simp; omega) d2 rfl).mono ?_
      rintro e w2 ⟨rfl, h2⟩
      have Hfin : Hid (HexB w b (.int .i64 ((i : Int) + 1)) w2) := Lib.hid ⟨i + 1, by omega, rfl, by rw [Hstep.out]; simpa using h2⟩
      clear h2 H1
      go_wp2_with fail
      go_roundw
      case rel => exact Hfin.out
      case measure => simp [intOf]; omega
    · obtain rfl : i = b.length := by omega
      rw [List.take_length] at Hown
      go_wp2_with fail
      refine Hown.out.string.mono ?_
      rintro e w1 ⟨rfl, h1⟩
      have H1 := Lib.hid h1
      clear h1 Hown
      go_wp2_with fail
      go_ret
      exact ⟨rfl, H1.out⟩
end Go.Proofs.YtfbdjfljgcfikaaDoor
