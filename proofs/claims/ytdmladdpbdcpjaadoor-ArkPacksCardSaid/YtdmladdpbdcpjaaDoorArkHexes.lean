/-
  Digits: the reference's.
  Digits: the package's, by a strings.Builder.
-/
import Derived.Test.YtdmladdpbdcpjaaDoorArkOwn
import Derived.RegionTactic
import Derived.StillTailTactics
import Derived.Deep.RegionLaw
import Derived.Deep.RegionWith
import Derived.Deep.RegionHeld3
import Derived.Test.YtdmladdpbdcpjaaDoorBuild
namespace Go.Proofs.YtdmladdpbdcpjaaDoor
open Go.RowKit

attribute [local go_sem] lt1 lt2 lt3 lt4 lt5 lt6

def hexD : ByteArray := ⟨#[48, 49, 50, 51, 52, 53, 54, 55, 56, 57, 97, 98, 99, 100, 101, 102]⟩
theorem hexAt : ∀ n, n < 16 → (#[48, 49, 50, 51, 52, 53, 54, 55, 56, 57, 97, 98, 99, 100, 101, 102] : Array UInt8).getD n 0 = digits16.getD n 0 := by decide
theorem hexAtI {z : Int} {n : Nat} (h : z.toNat = n) (hn : n < 16) (hb : z.toNat < (ByteArray.mk #[48, 49, 50, 51, 52, 53, 54, 55, 56, 57, 97, 98, 99, 100, 101, 102]).size) : ((ByteArray.mk #[48, 49, 50, 51, 52, 53, 54, 55, 56, 57, 97, 98, 99, 100, 101, 102])[z.toNat]'hb) = digits16.getD n 0 := by
  subst h
  rw [← hexAt _ hn]
  show (#[48, 49, 50, 51, 52, 53, 54, 55, 56, 57, 97, 98, 99, 100, 101, 102] : Array UInt8)[z.toNat]'hb = _
  simp [Array.getD, hn]
theorem hexOf_step (b : List UInt8) {i : Nat} (h : i < b.length) : hexOf (b.take (i + 1)) = hexOf (b.take i) ++ [digits16.getD ((b.getD i 0).toNat / 16) 0, digits16.getD ((b.getD i 0).toNat % 16) 0] := by
  rw [List.take_add_one, List.getElem?_eq_getElem h, hexOf, List.flatMap_append]
  simp [hexOf, List.getD_eq_getElem?_getD, List.getElem?_eq_getElem h]
theorem hexOf_length : ∀ b : List UInt8, (hexOf b).length = 2 * b.length
  | [] => rfl
  | x :: b => by
    have := hexOf_length b
    simp only [hexOf, List.flatMap_cons, List.length_append, List.length_cons, List.length_nil] at this ⊢
    omega
def HexRel (w : World) (b : List UInt8) (ov iv : Value) (wr : World) : Prop :=
  ∃ i, i ≤ b.length ∧ iv = .int .i64 (i : Nat) ∧ wr.ownsRow w.heap.size 5 1 ov (hexOf (b.take i)).length (u8s (hexOf (b.take i))) ∧ Below w.heap.size w wr

theorem row_sl' {w : World} {base cap : Nat} {A : Option Addr} {l : List UInt8} (h : w.ownsRow base 5 1 (.slice A l.length cap) l.length (u8s l)) : Bs w A cap l := by
  obtain ⟨A', c', he, hb⟩ := own_bs h
  simp only [Value.slice.injEq] at he
  obtain ⟨rfl, _, rfl⟩ := he
  exact hb
set_option maxHeartbeats 2000000 in
set_option maxRecDepth 100000 in
theorem hex_ref (w : World) (b : List UInt8) (A : Option Addr) (c : Nat) (hb : Bs w A c b) (hl : b.length ≤ 1048576) :
    Calls Tryd.prog 38 #[.slice A b.length c] w fun e w' => e = .returned (.string ⟨(hexOf b).toArray⟩) ∧ Below w.heap.size w w' := by
  have hcap := hb.le
  obtain ⟨i0, hi0, hz0, hz1, hz2⟩ := info_parts infoU8
  go_enter Tryd.func38, Tryd.ntmps38
  go_wp2_with fail
  go_loopw [4, 5] (fun ov iv wr => HexRel w b ov iv wr) (fun _ iv _ => b.length - (intOf iv).toNat)
  case atStart => exact ⟨0, by omega, rfl, World.ownsRow_nil _ _ _ _, Below.refl _ _⟩
  case round =>
    obtain ⟨i, hi, rfl, hown, hB⟩ := hrel
    have Hown := Lib.hid hown
    have HB := Lib.hid hB
    obtain ⟨Av, cv, rfl, _, _, hvc, hvm⟩ := own_form hown
    clear hown hB
    by_cases hlt : i < b.length
    · obtain ⟨bb, oo, rfl, e0⟩ := hb.at_ hlt
      have f0 := Cells.of_below HB.out _ _ e0
      have hx := (b.getD i 0).toNat_lt
      obtain ⟨xv, hxv⟩ : ∃ x, x = b.getD i 0 := ⟨_, rfl⟩
      rw [← hxv] at f0 hx
      clear e0
      have Hxv := Lib.hid hxv
      clear hxv
      have hi1 : (0 : Int) ≤ i := by omega
      have hi2 : (i : Int) < b.length := by omega
      have hd1 : xv.toNat / 16 < 16 := by omega
      have hd2 : xv.toNat % 16 < 16 := by omega
      have hm1 : IntKind.u8.wrap ((xv.toNat : Int) / 16) = (xv.toNat : Int) / 16 := by rw [IntKind.wrap_u8']; omega
      have hn1 : (0 : Int) ≤ (xv.toNat : Int) / 16 := by omega
      have hn2 : (xv.toNat : Int) / 16 < 16 := by omega
      have ht : (xv.toNat : Int).tmod 16 = ((xv.toNat % 16 : Nat) : Int) := by rw [Int.tmod_eq_emod_of_nonneg (by omega)]; rfl
      have hn3 : (0 : Int) ≤ (xv.toNat : Int).tmod 16 := by omega
      have hn4 : (xv.toNat : Int).tmod 16 < 16 := by omega
      have hv1 := fun hb => hexAtI (z := (xv.toNat : Int) / 16) (n := xv.toNat / 16) (by omega) hd1 hb
      have hv2 := fun hb => hexAtI (z := (xv.toNat : Int).tmod 16) (n := xv.toNat % 16) (by omega) hd2 hb
      have hstep := hexOf_step b hlt
      rw [← Hxv.out] at hstep
      have hlen := hexOf_length (b.take i)
      rw [List.length_take] at hlen
      generalize digits16.getD (xv.toNat / 16) 0 = d1 at *
      generalize digits16.getD (xv.toNat % 16) 0 = d2 at *
      have Hstep := Lib.hid hstep
      clear hstep hd1 hd2 ht
      generalize hexOf (b.take i) = T at *
      have Hlen : Hid (T.length ≤ 2097152) := Lib.hid (by omega)
      clear hlen
      have Hnw : Hid (∀ j v, [Value.int .u8 (d1.toNat : Nat), .int .u8 (d2.toNat : Nat)][j]? = some v → (wr.drew.alloc (.cells #[.int .u8 (d1.toNat : Nat), .int .u8 (d2.toNat : Nat)] 5)).cell? ((⟨wr.heap.size, 0, none⟩ : Addr).add j) = some v) := Lib.hid (fun j v hv => World.news_of_block (w := wr.drew.alloc _) (heap_alloc_new wr.drew _) j v hv)
      have HownZ : Hid (∀ o', (wr.drew.alloc o').ownsRow w.heap.size 5 1 (.slice Av T.length cv) T.length (u8s T)) := Lib.hid (fun o' => own_keep Hown.out fun g' c' hg' => (Below.heap_alloc wr o' g' (lt_of_heap hg')).trans hg')
      have Hone : Hid (∀ v ∈ [Value.int .u8 (d1.toNat : Nat), .int .u8 (d2.toNat : Nat)], v.oneCell' = true) := Lib.hid (u8s_one [d1, d2])
      have hsz := HB.out.size
      go_wp2_with fail
      go_region_law (refine step_append_lies _ (by rfl) _ _ 28 (by rfl) w.heap.size 5 i0 (.int .u8 0) 1 1 Tryd.underlying28 hi0 hz0 hz1 hz2 (by rfl) (by omega) (.slice Av T.length cv) T.length (u8s T) (by rfl) (HownZ.out _) ⟨wr.heap.size, 0, none⟩ 2 2 [.int .u8 (d1.toNat : Nat), .int .u8 (d2.toNat : Nat)] (by rfl) (by rfl) Hnw.out Hone.out (by omega) (by have := Hlen.out; simp [maxLen]; omega) (by have := Hlen.out; omega) (by simp; omega) (wr.heap.size + 1) (by simp) ?_; intro g cap z2 hown hgrow hat hlt2; have hown := Lib.hid hown; have hgrow := Lib.hid hgrow)
      all_goals
        have Hfin : Hid (HexRel w b (.slice (some ⟨g, 0, none⟩) (T.length + 2) cap) (.int .i64 ((i : Int) + 1)) z2) := Lib.hid ⟨i + 1, by omega, rfl, by rw [Hstep.out]; simpa [u8s] using hown.out, ((HB.out.alloc hsz _).drew).grown hgrow.out (by simp; omega) (fun k' hk' => (own_blk Hown.out k' hk').1)⟩
        clear hown hgrow hat hlt2
        go_wp2_with fail
        exact ⟨Hfin.out, by simp [intOf]; omega⟩
    · obtain rfl : i = b.length := by omega
      rw [List.take_length] at Hown ⊢
      have hcv := str_of_bs (row_sl' Hown.out)
      generalize hT : hexOf b = T at *
      have HT := Lib.hid hT
      clear hT
      have HB' := HB.out
      clear Hown
      go_wp2_with fail
      go_ret
      exact ⟨by rw [HT.out]; rfl, HB'⟩
end Go.Proofs.YtdmladdpbdcpjaaDoor
namespace Go.Proofs.YtdmladdpbdcpjaaDoor
open Go.RowKit

attribute [local go_sem] lt1 lt2 lt3 lt4 lt5 lt6

/-- a builder of the call's own holds the bytes l -/
def Bld (w : World) (l : List UInt8) (wr : World) : Prop := Lib.IsBuilder 99 5 w.heap.size w.heap.size (u8s l) wr ∧ Below w.heap.size w wr
theorem Bld.fresh (w : World) : Bld w [] (w.alloc (.cells #[.pointer none, .slice none 0 0] 99)) := ⟨Lib.fresh_isBuilder _ _ w, (Below.refl _ _).alloc (Nat.le_refl _) _⟩
theorem Bld.write {w wr : World} {l : List UInt8} (h : Bld w l wr) (hl : l.length ≤ 100000000) (x : UInt8) {c : Int} (hc : c = (x.toNat : Nat)) :
    Calls Tryd.prog 67 #[.pointer (some ⟨w.heap.size, 0, none⟩), .int .u8 c] wr fun e w' => e = .returned .nilIface ∧ Bld w (l ++ [x]) w' := by
  subst hc
  refine (Tryd.write_byte w.heap.size w.heap.size (u8s l) (x.toNat : Nat) wr h.1 (by rw [u8s_length]; omega) h.2.size).mono ?_
  rintro e w' ⟨rfl, hb, hB⟩
  refine ⟨rfl, .inr ?_, h.2.trans hB⟩
  simpa [u8s] using hb
theorem Bld.string {w wr : World} {l : List UInt8} (h : Bld w l wr) : Calls Tryd.prog 68 #[.pointer (some ⟨w.heap.size, 0, none⟩)] wr fun e w' => e = .returned (.string ⟨l.toArray⟩) ∧ Below w.heap.size w w' :=
  (Tryd.builder_string w.heap.size w.heap.size l wr h.1 h.2.size).mono fun _ _ ⟨he, hB⟩ => ⟨he, h.2.trans hB⟩
def HexB (w : World) (b : List UInt8) (iv : Value) (wr : World) : Prop := ∃ i, i ≤ b.length ∧ iv = .int .i64 (i : Nat) ∧ Bld w (hexOf (b.take i)) wr

set_option maxHeartbeats 2000000 in
set_option maxRecDepth 100000 in
theorem hex_any (w : World) (b : List UInt8) (A : Option Addr) (c : Nat) (hb : Bs w A c b) (hl : b.length ≤ 1048576) :
    Calls Tryd.prog 37 #[.slice A b.length c] w fun e w' => e = .returned (.string ⟨(hexOf b).toArray⟩) ∧ Below w.heap.size w w' := by
  have hcap := hb.le
  have Hb := Lib.hid hb
  clear hb
  go_enter Tryd.func37, Tryd.ntmps37
  go_wp2_with fail
  have H0 := Lib.hid (Bld.fresh w)
  go_loopw [8] (fun iv wr => HexB w b iv wr) (fun iv _ => b.length - (intOf iv).toNat)
  case atStart => exact ⟨0, by omega, rfl, H0.out⟩
  case round =>
    obtain ⟨i, hi, rfl, hown⟩ := hrel
    have Hown := Lib.hid hown
    clear hown
    by_cases hlt : i < b.length
    · obtain ⟨bb, oo, rfl, e0⟩ := Hb.out.at_ hlt
      have f0 := Cells.of_below Hown.out.2 _ _ e0
      have hx := (b.getD i 0).toNat_lt
      have hstep := hexOf_step b hlt
      have hlen := hexOf_length (b.take i)
      rw [List.length_take] at hlen
      obtain ⟨xv, hxv⟩ : ∃ x, x = b.getD i 0 := ⟨_, rfl⟩
      rw [← hxv] at f0 hx hstep
      clear e0 hxv
      have hi1 : (0 : Int) ≤ i := by omega
      have hi2 : (i : Int) < b.length := by omega
      have hd1 : xv.toNat / 16 < 16 := by omega
      have hd2 : xv.toNat % 16 < 16 := by omega
      have hv1 := fun hb => hexAtI (z := (xv.toNat : Int) / 16) (n := xv.toNat / 16) (by omega) hd1 hb
      have hv2 := fun hb => hexAtI (z := (xv.toNat : Int) % 16) (n := xv.toNat % 16) (by omega) hd2 hb
      generalize digits16.getD (xv.toNat / 16) 0 = d1 at *
      generalize digits16.getD (xv.toNat % 16) 0 = d2 at *
      have Hstep := Lib.hid hstep
      generalize hexOf (b.take i) = T at *
      have Hlen : Hid (T.length ≤ 2097152) := Lib.hid (by omega)
      clear hstep hlen hd1 hd2
      go_wp2_with fail
      refine (Hown.out.write (by have := Hlen.out; omega) d1 rfl).mono ?_
      rintro e w1 ⟨rfl, h1⟩
      have H1 := Lib.hid h1
      clear h1 Hown f0
      go_wp2_with fail
      refine (H1.out.write (by have := Hlen.out; simp; omega) d2 rfl).mono ?_
      rintro e w2 ⟨rfl, h2⟩
      have Hfin : Hid (HexB w b (.int .i64 ((i : Int) + 1)) w2) := Lib.hid ⟨i + 1, by omega, rfl, by rw [Hstep.out]; simpa using h2⟩
      clear h2 H1
      go_wp2_with fail
      go_roundw
      case rel => exact Hfin.out
      case measure => simp [intOf]; omega
    · obtain rfl : i = b.length := by omega
      rw [List.take_length] at Hown
      go_wp2_with fail
      refine Hown.out.string.mono ?_
      rintro e w1 ⟨rfl, h1⟩
      have H1 := Lib.hid h1
      clear h1 Hown
      go_wp2_with fail
      go_ret
      exact ⟨rfl, H1.out⟩
end Go.Proofs.YtdmladdpbdcpjaaDoor
