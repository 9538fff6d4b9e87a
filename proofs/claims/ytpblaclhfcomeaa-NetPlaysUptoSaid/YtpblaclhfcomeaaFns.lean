/-
  The small functions: what Num, SameBytes, fits and fresh answer.
-/
import Derived.Test.YtpblaclhfcomeaaBase
import Derived.Deep.QuietTactic
import Derived.BigQuiet
namespace Go.Proofs.Ytpblaclhfcomeaa
open Go.RowKit

theorem num_any (n : Int) (w : World) : Calls Try.prog 9 #[.int .i64 n] w fun e w' => e = .returned (.int .i64 n) ∧ w = w' := by
  go_enter Try.func9, Try.ntmps9
  go_wp2
  go_ret
  exact ⟨rfl, rfl⟩

def SameRel (x y : List UInt8) (w : World) (i : Value) (wr : World) : Prop := ∃ k : Nat, k ≤ x.length ∧ i = .int .i64 k ∧ x.take k = y.take k ∧ ∃ n, wr = w.drewN n

theorem same_any (x y : List UInt8) (A1 A2 : Option Addr) (c1 c2 : Nat) (w : World) (h1 : Bs w A1 c1 x) (h2 : Bs w A2 c2 y) :
    Calls Try.prog 11 #[.slice A1 x.length c1, .slice A2 y.length c2] w fun e w' => e = .returned (.bool (x == y)) ∧ ∃ n, w' = w.drewN n := by
  have hx := h1.len_le
  have hy := h2.len_le
  have H1 := Lib.hid h1
  have H2 := Lib.hid h2
  clear h1 h2
  by_cases hl : x.length = y.length
  · have Hl := Lib.hid hl
    clear hl
    have hb : ((x.length : Int) != y.length) = false := by simp [Hl.out]
    go_enter Try.func11, Try.ntmps11
    go_wp2
    go_loopw [5] (fun i wr => SameRel x y w i wr) (fun i _ => x.length - (intOf i).toNat)
    case atStart => exact ⟨0, by omega, rfl, rfl, 0, rfl⟩
    case round =>
      obtain ⟨k, hk, rfl, hkk, n, rfl⟩ := hrel
      have Hkk := Lib.hid hkk
      clear hkk
      by_cases hlt : k < x.length
      · have hlt2 : k < y.length := by have := Hl.out; omega
        obtain ⟨b1, o1, rfl, g1⟩ := H1.out.at_ hlt
        obtain ⟨b2, o2, rfl, g2⟩ := H2.out.at_ hlt2
        obtain ⟨p, hp⟩ : ∃ p, p = x.getD k 0 := ⟨_, rfl⟩
        obtain ⟨q, hq⟩ : ∃ q, q = y.getD k 0 := ⟨_, rfl⟩
        rw [← hp] at g1
        rw [← hq] at g2
        have Hp := Lib.hid hp
        have Hq := Lib.hid hq
        clear hp hq
        by_cases he : p = q
        · subst he
          go_wp2_with fail
          go_quiet (fail)
          go_wp2
          go_roundw
          case rel =>
            refine ⟨k+1, by omega, by go_num, ?_, _, rfl⟩
            rw [take_succ_getD hlt, take_succ_getD hlt2, Hkk.out, ← Hp.out, ← Hq.out]
          case measure => simp [intOf]; omega
        · have hd : ((p.toNat : Int) != q.toNat) = true := by
            rw [bne_iff_ne]; intro h; apply he; exact UInt8.toNat_inj.1 (by omega)
          have He := Lib.hid he
          clear he
          go_wp2_with fail
          go_quiet (fail)
          go_wp2
          go_ret
          refine ⟨ret_bool ?_, n + nq, World.drewN_drewN _ _ _⟩
          symm; rw [beq_eq_false_iff_ne]; rintro rfl; exact He.out (Hp.out.trans Hq.out.symm)
      · go_wp2
        go_ret
        have hkx : k = x.length := by omega
        refine ⟨ret_bool ?_, _, rfl⟩
        have h3 := Hkk.out
        have h4 := Hl.out
        rw [List.take_of_length_le (by omega), List.take_of_length_le (by omega)] at h3
        simp [h3]
  · have hb : ((x.length : Int) != y.length) = true := by rw [bne_iff_ne]; omega
    have Hl := Lib.hid hl
    clear hl
    go_enter Try.func11, Try.ntmps11
    go_wp2
    go_ret
    refine ⟨ret_bool ?_, 0, rfl⟩
    symm; rw [beq_eq_false_iff_ne]; rintro rfl; exact Hl.out rfl

def fitsB (s : ByteArray) : Bool := !s.toList.isEmpty && decide (s.size ≤ 400)

theorem fits_any (s : ByteArray) (w : World) (hs : s.size ≤ 9223372036854775807) : Calls Try.prog 30 #[.string s] w fun e w' => e = .returned (.bool (fitsB s)) ∧ w = w' := by
  by_cases h : s.toList.isEmpty = true
  · have h2 : (!s.toList.isEmpty) = false := by simp [h]
    go_enter Try.func30, Try.ntmps30
    go_wp2
    go_ret
    refine ⟨ret_bool ?_, rfl⟩
    simp [fitsB, h]
  · have h0 : s.toList.isEmpty = false := by simpa using h
    have h2 : (!s.toList.isEmpty) = true := by simp [h0]
    clear h
    go_enter Try.func30, Try.ntmps30
    go_wp2
    go_ret
    refine ⟨ret_bool ?_, rfl⟩
    simp [fitsB, h0]; omega

theorem infoU8 : (Try.prog.info? 5).map (fun i => (i.zero, i.size, i.bytes)) = some (some (.int .u8 0), 1, 1) := by kernel_rfl

/-- what fresh hands back -/
def FreshPost (x : List UInt8) (w : World) (e : Ending) (w' : World) : Prop :=
  ∃ g, e = .returned (.slice (some ⟨g, 0, none⟩) x.length x.length) ∧ w'.heap[g]? = some (.cells (u8s x).toArray 5 (0, 0)) ∧ w.heap.size ≤ g ∧ Below w.heap.size w w'

theorem fresh_any (x : List UInt8) (A : Option Addr) (c : Nat) (w : World) (hx : x.length ≤ 140737488351232) (h1 : Bs w A c x) :
    Calls Try.prog 31 #[.slice A x.length c] w (FreshPost x w) := by
  have H1 := Lib.hid h1
  clear h1
  obtain ⟨i0, hi0, hz0, hz1, hz2⟩ := info_parts infoU8
  go_enter Try.func31, Try.ntmps31
  go_wp2_with (first | (at_make; refine wpList_make_own _ rfl _ _ 31 rfl w.heap.size 5 i0 (.int .u8 0) 1 Try.underlying31 hi0 hz0 hz1 _ _ _ x.length rfl rfl rfl ?hby ?hml ?hba ?_))
  case hby => rw [hz2]; omega
  case hml => simp [maxLen]; omega
  case hba => exact Nat.le_refl _
  intro w1 hown hgrow
  go_wp2_with (first | (at_builtin; refine wpList_append_fits_any _ rfl _ _ 31 rfl w.heap.size 5 i0 1 Try.underlying31 hi0 hz1 w.heap.size 0 x.length [] rfl hown A x.length c (u8s x) rfl ?hl ?hn ?hc ?h1c ?hb ?_))
  case hl => simp [u8s]
  case hn => exact fun hA => H1.out.nil hA
  case hc =>
    intro ad hA j u hu
    have hj : j < x.length := by have := (List.getElem?_eq_some_iff.1 hu).1; simpa [u8s] using this
    obtain ⟨b, o, hbo, hcell⟩ := H1.out.cells (by omega)
    have : ad = ⟨b, o, none⟩ := Option.some.inj (hA.symm.trans hbo)
    subst this
    have h2 := (hcell j (by omega)).trans hu
    have h3 : w1.cell? ⟨b, o + j, none⟩ = some u := hgrow.cell h2 (by simp)
    by_cases hj0 : j = 0
    · subst hj0; simpa [Addr.add] using h3
    · simpa [Addr.add, hj0] using h3
  case h1c => exact u8s_one x
  case hb => omega
  intro w2 hown2 hgrow2
  go_wp2
  go_ret
  refine ⟨w.heap.size, rfl, ?_, Nat.le_refl _, ?_⟩
  · obtain ⟨_, h | ⟨g, cap, cur, hv, _, hh, _, _, hsz, htk⟩⟩ := hown2
    · simp at h
    · simp only [Value.slice.injEq, Option.some.injEq, Addr.mk.injEq] at hv
      obtain ⟨⟨rfl, _⟩, _, rfl⟩ := hv
      have he : cur = (u8s x).toArray := by rw [← htk, List.take_of_length_le (by simp [hsz])]
      rw [hh, he]
  · exact (((Below.refl _ _).grown hgrow (Nat.le_refl _) (by simp)).grown hgrow2 hgrow.size (by intro k hk; cases hk; exact Nat.le_refl _))
theorem fresh_at (x : List UInt8) (A : Option Addr) (len c : Nat) (w : World) (hlen : len = x.length) (hx : x.length ≤ 140737488351232) (h1 : Bs w A c x) :
    Calls Try.prog 31 #[.slice A len c] w (FreshPost x w) := by
  subst hlen
  exact fresh_any x A c w hx h1
end Go.Proofs.Ytpblaclhfcomeaa
