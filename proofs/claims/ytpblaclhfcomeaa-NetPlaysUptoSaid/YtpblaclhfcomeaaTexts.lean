/-
  SameTexts; fault; what is lent.
-/
import Derived.Test.YtpblaclhfcomeaaRefSet
namespace Go.Proofs.Ytpblaclhfcomeaa
open Go.RowKit Go.Maps

attribute [local go_sem] lt1 lt2 lt3 lt4 lt5 lt6

theorem str_at {w : World} {A : Option Addr} {c : Nat} {x : List ByteArray} (h : Sl w A c x.length 1 (x.map Value.string)) {i : Nat} (hi : i < x.length) : ∃ b o s, A = some ⟨b, o, none⟩ ∧ x[i]? = some s ∧ w.cell? ⟨b, o + i, none⟩ = some (.string s) := by
  obtain ⟨b, o, rfl, hx⟩ := h.cells (by omega)
  refine ⟨b, o, x[i], rfl, List.getElem?_eq_getElem hi, ?_⟩
  rw [hx i (by omega)]
  simp [hi]
theorem take_snoc {α : Type} {x : List α} {k : Nat} {s : α} (h : x[k]? = some s) : x.take (k + 1) = x.take k ++ [s] := by
  rw [List.take_add_one, h]; rfl
def TextRel (x y : List ByteArray) (w : World) (i : Value) (wr : World) : Prop := ∃ k : Nat, k ≤ x.length ∧ i = .int .i64 k ∧ x.take k = y.take k ∧ ∃ n, wr = w.drewN n

set_option maxHeartbeats 1000000 in
theorem texts_any (x y : List ByteArray) (A1 A2 : Option Addr) (c1 c2 : Nat) (w : World) (h1 : Sl w A1 c1 x.length 1 (x.map Value.string)) (h2 : Sl w A2 c2 y.length 1 (y.map Value.string)) :
    Calls Try.prog 27 #[.slice A1 x.length c1, .slice A2 y.length c2] w fun e w' => e = .returned (.bool (decide (x = y))) ∧ ∃ n, w' = w.drewN n := by
  have hx : x.length ≤ 9223372036854775807 := by have a := h1.le; have b := h1.big; unfold maxLen at b; omega
  have hy : y.length ≤ 9223372036854775807 := by have a := h2.le; have b := h2.big; unfold maxLen at b; omega
  have H1 := Lib.hid h1
  have H2 := Lib.hid h2
  clear h1 h2
  by_cases hl : x.length = y.length
  · have Hl := Lib.hid hl
    clear hl
    have hb : ((x.length : Int) != y.length) = false := by simp [Hl.out]
    go_enter Try.func27, Try.ntmps27
    go_wp2
    go_loopw [5] (fun i wr => TextRel x y w i wr) (fun i _ => x.length - (intOf i).toNat)
    case atStart => exact ⟨0, by omega, rfl, rfl, 0, rfl⟩
    case round =>
      obtain ⟨k, hk, rfl, hkk, n, rfl⟩ := hrel
      have Hkk := Lib.hid hkk
      clear hkk
      by_cases hlt : k < x.length
      · have hlt2 : k < y.length := by have := Hl.out; omega
        obtain ⟨b1, o1, p, rfl, hp, g1⟩ := str_at H1.out hlt
        obtain ⟨b2, o2, q, rfl, hq, g2⟩ := str_at H2.out hlt2
        have Hp := Lib.hid hp
        have Hq := Lib.hid hq
        clear hp hq
        have hseq := str_eq p q
        cases he : decide (p = q) with
        | true =>
          rw [he] at hseq
          have He := Lib.hid he
          clear he
          go_wp2_with fail
          go_quiet (fail)
          go_wp2
          go_roundw
          case rel =>
            refine ⟨k+1, by omega, by go_num, ?_, _, rfl⟩
            rw [take_snoc Hp.out, take_snoc Hq.out, Hkk.out, of_decide_eq_true He.out]
          case measure => simp [intOf]; omega
        | false =>
          rw [he] at hseq
          have He := Lib.hid he
          clear he
          go_wp2_with fail
          go_quiet (fail)
          go_wp2
          go_ret
          refine ⟨ret_bool ?_, n + nq, World.drewN_drewN _ _ _⟩
          symm; rw [decide_eq_false_iff_not]; rintro rfl
          have h3 := Hp.out.symm.trans Hq.out
          exact of_decide_eq_false He.out (Option.some.inj h3)
      · go_wp2
        go_ret
        have hkx : k = x.length := by omega
        refine ⟨ret_bool ?_, _, rfl⟩
        have h3 := Hkk.out
        have h4 := Hl.out
        rw [List.take_of_length_le (by omega), List.take_of_length_le (by omega)] at h3
        simp [h3]
  · have hb : ((x.length : Int) != y.length) = true := by rw [bne_iff_ne]; omega
    have Hl := Lib.hid hl
    clear hl
    go_enter Try.func27, Try.ntmps27
    go_wp2
    go_ret
    refine ⟨ret_bool ?_, 0, rfl⟩
    symm; rw [decide_eq_false_iff_not]; rintro rfl; exact Hl.out rfl

theorem fault_any (w : World) (u : ByteArray) (att kind n : Int) (A : Option Addr) (len c : Nat) :
    Calls Try.prog 26 #[fV u att kind n A len c] w fun e w' => e = .returned (fV u att kind n A len c) ∧ Below w.heap.size w w' := by
  unfold fV
  go_enter Try.func26, Try.ntmps26
  go_wp2_with fail
  refine bodyPost_ret (v := .agg #[.string u, .int .i64 att, .int .i64 kind, .int .i64 n, .slice A len c]) (by simp [results, Try.results26, go_sem]) rfl ⟨rfl, ?_⟩
  exact ((Below.refl _ _).alloc (Nat.le_refl _) _).alloc (by simp) _
end Go.Proofs.Ytpblaclhfcomeaa
