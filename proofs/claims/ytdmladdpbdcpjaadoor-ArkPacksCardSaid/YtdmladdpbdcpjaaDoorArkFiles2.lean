/-
  Files: few of them, the same ones, a copy. (Printed by wip/abexp.py.)
-/
import Derived.Test.YtdmladdpbdcpjaaDoorArkFiles
import Derived.Test.YtdmladdpbdcpjaaDoorArkFrom
import Derived.Test.YtdmladdpbdcpjaaDoorArkAbs
namespace Go.Proofs.YtdmladdpbdcpjaaDoor
open Go.RowKit

set_option linter.unusedSimpArgs false

attribute [local go_sem] lt1 lt2 lt3 lt4 lt5 lt6

/-! ### few -/
def sumFl : List Fl → Nat
  | [] => 0
  | p :: l => p.2.length + p.1.size + sumFl l
theorem sumFl_append (a b : List Fl) : sumFl (a ++ b) = sumFl a + sumFl b := by
  induction a with
  | nil => simp [sumFl]
  | cons p a ih => rw [List.cons_append, sumFl, sumFl, ih]; omega
theorem sumFl_take {l : List Fl} {i : Nat} (h : i < l.length) : sumFl (l.take (i + 1)) = sumFl (l.take i) + ((l.getD i noFl).2.length + (l.getD i noFl).1.size) := by
  rw [take_getD h, sumFl_append]
  simp [sumFl]
theorem sumFl_take_le (l : List Fl) (i : Nat) : sumFl (l.take i) ≤ sumFl l := by
  conv => rhs; rw [← List.take_append_drop i l, sumFl_append]
  omega
def FewRel (l : List Fl) (most : Nat) (nv iv : Value) : Prop := ∃ i, i ≤ l.length ∧ iv = .int .i64 (i : Nat) ∧ nv = .int .i64 (sumFl (l.take i) : Nat) ∧ sumFl (l.take i) ≤ most
set_option maxHeartbeats 2000000 in
set_option maxRecDepth 100000 in
theorem few_any (w : World) (A : Option Addr) (c : Nat) (l : List Fl) (most : Nat) (hm : most ≤ 1048576) (hf : FlAt w A c l) (hs : ∀ p ∈ l, p.1.size ≤ maxLen) :
    Calls Tryd.prog 11 #[.slice A l.length c, .int .i64 (most : Nat)] w fun e w' => e = .returned (.bool (decide (sumFl l ≤ most))) ∧ w = w' := by
  have hll : l.length ≤ 9223372036854775807 := by have h1 := hf.le; have h2 := hf.big; unfold maxLen at h2; omega
  have Hf := Lib.hid hf
  have Hs := Lib.hid hs
  clear hf hs
  go_enter Tryd.func11, Tryd.ntmps11
  go_wp2_with fail
  go_loop [5, 6] (fun nv iv => FewRel l most nv iv) (fun _ iv => l.length - (intOf iv).toNat)
  case atStart => exact ⟨0, by omega, rfl, rfl, by simp [sumFl]⟩
  case round =>
    obtain ⟨i, hi, rfl, rfl, hn⟩ := hrel
    have hir : (0 : Int) ≤ i := by omega
    by_cases hlt : i < l.length
    · have hlI : (i : Int) < l.length := by omega
      obtain ⟨bb, oo, Ai, ci, rfl, g1, g2, hb⟩ := Hf.out.at_ hlt
      have hst := sumFl_take hlt
      have hle := sumFl_take_le l (i + 1)
      have hdl := hb.len_le
      have hps := Hs.out _ (List.mem_of_getElem? (getD_some hlt))
      unfold maxLen at hps
      clear hb
      generalize l.getD i noFl = p at *
      generalize sumFl (l.take i) = n at *
      have hn0 : (0 : Int) ≤ (most : Int) - n := by omega
      by_cases h1 : p.2.length + n ≤ most
      · have hI1 : (p.2.length : Int) ≤ (most : Int) - n := by omega
        have hI0 : ((n : Int) + p.2.length) ≤ 1048576 := by omega
        have hn1 : (0 : Int) ≤ (most : Int) - (n + p.2.length) := by omega
        by_cases h2 : p.1.size + (n + p.2.length) ≤ most
        · have hI2 : (p.1.size : Int) ≤ (most : Int) - ((n : Int) + p.2.length) := by omega
          have Hfin : Hid (FewRel l most (.int .i64 ((n : Int) + p.2.length + p.1.size)) (.int .i64 ((i : Int) + 1))) := Lib.hid ⟨i + 1, by omega, rfl, by congr 1; omega, by omega⟩
          clear hst hle
          go_wp2_with fail
          exact ⟨Hfin.out, by simp [intOf]; omega⟩
        · have hI2 : (most : Int) - ((n : Int) + p.2.length) < (p.1.size : Int) := by omega
          have Hd : Hid (decide (sumFl l ≤ most) = false) := Lib.hid (decide_eq_false (by omega))
          clear hst hle
          go_wp2_with fail
          go_ret
          exact ⟨ret_bool Hd.out.symm, rfl⟩
      · have hI1 : (most : Int) - n < (p.2.length : Int) := by omega
        have Hd : Hid (decide (sumFl l ≤ most) = false) := Lib.hid (decide_eq_false (by omega))
        clear hst hle
        go_wp2_with fail
        go_ret
        exact ⟨ret_bool Hd.out.symm, rfl⟩
    · obtain rfl : i = l.length := by omega
      rw [List.take_length] at hn
      have Hd : Hid (decide (sumFl l ≤ most) = true) := Lib.hid (decide_eq_true hn)
      clear hn
      go_wp2_with fail
      go_ret
      exact ⟨ret_bool Hd.out.symm, rfl⟩
/-! ### the same -/
def SmFRel (x y : List Fl) (w : World) (i : Value) (wr : World) : Prop := ∃ k : Nat, k ≤ x.length ∧ i = .int .i64 k ∧ x.take k = y.take k ∧ ∃ n, wr = w.drewN n
set_option maxHeartbeats 2000000 in
set_option maxRecDepth 100000 in
theorem samef_any (x y : List Fl) (A1 A2 : Option Addr) (c1 c2 : Nat) (w : World) (h1 : FlAt w A1 c1 x) (h2 : FlAt w A2 c2 y) :
    Calls Tryd.prog 21 #[.slice A1 x.length c1, .slice A2 y.length c2] w fun e w' => e = .returned (.bool (decide (x = y))) ∧ ∃ n, w' = w.drewN n := by
  have hx : x.length ≤ 9223372036854775807 := by have h3 := h1.le; have h4 := h1.big; unfold maxLen at h4; omega
  have hy : y.length ≤ 9223372036854775807 := by have h3 := h2.le; have h4 := h2.big; unfold maxLen at h4; omega
  have H1 := Lib.hid h1
  have H2 := Lib.hid h2
  clear h1 h2
  by_cases hl : x.length = y.length
  · have Hl := Lib.hid hl
    clear hl
    have hb : ((x.length : Int) != y.length) = false := by simp [Hl.out]
    go_enter Tryd.func21, Tryd.ntmps21
    go_wp2
    go_loopw [5] (fun i wr => SmFRel x y w i wr) (fun i _ => x.length - (intOf i).toNat)
    case atStart => exact ⟨0, by omega, rfl, rfl, 0, rfl⟩
    case round =>
      obtain ⟨k, hk, rfl, hkk, hwr⟩ := hrel
      have Hkk := Lib.hid hkk
      have Hwr := Lib.hid hwr
      have Hwd : Hid (∀ m, ∃ n, wr.drewN m = w.drewN n) := Lib.hid fun m => by obtain ⟨n, rfl⟩ := hwr; exact ⟨_, World.drewN_drewN _ _ _⟩
      have hcw : Cells w wr := by obtain ⟨n, rfl⟩ := hwr; exact fun _ _ h => h
      have H1' := Lib.hid (H1.out.keep hcw)
      have H2' := Lib.hid (H2.out.keep hcw)
      clear hkk hwr hcw
      have hkr : (0 : Int) ≤ k := by omega
      by_cases hlt : k < x.length
      · have hlt2 : k < y.length := by have := Hl.out; omega
        have hk1 : (k : Int) < x.length := by omega
        have hk2 : (k : Int) < y.length := by omega
        obtain ⟨b1, o1, B1, d1, hA1, g1, g1', hb1⟩ := H1'.out.at_ hlt
        obtain ⟨b2, o2, B2, d2, hA2, g2, g2', hb2⟩ := H2'.out.at_ hlt2
        subst hA1 hA2
        have Htk := Lib.hid (And.intro (take_getD hlt) (take_getD hlt2))
        have Hne : Hid (x.getD k noFl ≠ y.getD k noFl → x ≠ y) := Lib.hid fun h e => h (by rw [e])
        obtain ⟨p, hp⟩ : ∃ p, p = x.getD k noFl := ⟨_, rfl⟩
        obtain ⟨q, hq⟩ : ∃ q, q = y.getD k noFl := ⟨_, rfl⟩
        rw [← hp] at g1 g1' hb1 Htk Hne
        rw [← hq] at g2 g2' hb2 Htk Hne
        clear hp hq
        have hne := str_eq p.1 q.1
        by_cases he : p.1 = q.1
        · rw [decide_eq_true he] at hne
          have hs := fun m => same_any p.2 q.2 B1 B2 d1 d2 (wr.drewN m) (hb1.keep fun _ _ h => h) (hb2.keep fun _ _ h => h)
          by_cases he2 : p.2 = q.2
          · have hbb : (p.2 == q.2) = true := by rw [he2]; exact BEq.rfl
            rw [hbb] at hs
            have Hpq : Hid (p = q) := Lib.hid (Prod.ext he he2)
            clear he he2 hbb hb1 hb2
            go_wp2_with fail
            go_quiet ((go_at_call 20; with_reducible exact Calls.quiet_of (hs _)))
            go_wp2
            go_roundw
            case rel =>
              refine ⟨k + 1, by omega, by go_num, ?_, Hwd.out _⟩
              rw [Htk.out.1, Htk.out.2, Hkk.out, Hpq.out]
            case measure => simp [intOf]; omega
          · have hbb : (p.2 == q.2) = false := beq_eq_false_iff_ne.2 he2
            rw [hbb] at hs
            have Hpq : Hid (p ≠ q) := Lib.hid fun e => he2 (by rw [e])
            clear he he2 hbb hb1 hb2
            go_wp2_with fail
            go_quiet ((go_at_call 20; with_reducible exact Calls.quiet_of (hs _)))
            go_wp2
            go_ret
            exact ⟨ret_bool (decide_eq_false (Hne.out Hpq.out)).symm, Hwd.out _⟩
        · rw [decide_eq_false he] at hne
          have Hpq : Hid (p ≠ q) := Lib.hid fun e => he (by rw [e])
          clear he hb1 hb2
          go_wp2_with fail
          go_quiet (fail)
          go_wp2
          go_ret
          exact ⟨ret_bool (decide_eq_false (Hne.out Hpq.out)).symm, Hwd.out _⟩
      · go_wp2
        go_ret
        refine ⟨ret_bool (decide_eq_true ?_).symm, Hwr.out⟩
        have h3 := Hkk.out
        have h4 := Hl.out
        rw [List.take_of_length_le (by omega), List.take_of_length_le (by omega)] at h3
        exact h3
  · have hb : ((x.length : Int) != y.length) = true := by rw [bne_iff_ne]; omega
    have Hl := Lib.hid hl
    clear hl
    go_enter Tryd.func21, Tryd.ntmps21
    go_wp2
    go_ret
    exact ⟨ret_bool (decide_eq_false fun e => Hl.out (by rw [e])).symm, 0, rfl⟩
end Go.Proofs.YtdmladdpbdcpjaaDoor
