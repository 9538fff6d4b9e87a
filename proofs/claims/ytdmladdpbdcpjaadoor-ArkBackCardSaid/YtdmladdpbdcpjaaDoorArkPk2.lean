/-
  Pack of the package: any files, over a contract of their order. (Printed by wip/abexp.py.)
-/
import Derived.Test.YtdmladdpbdcpjaaDoorArkPk1
namespace Go.Proofs.YtdmladdpbdcpjaaDoor
open Go.RowKit

set_option linter.unusedSimpArgs false

attribute [local go_sem] lt1 lt2 lt3 lt4 lt5 lt6

def sumD (l : List Fl) : Nat := (l.map fun p => p.2.length).sum
theorem sumD_take {l : List Fl} {i : Nat} (h : i < l.length) : sumD (l.take (i + 1)) = sumD (l.take i) + (l.getD i noFl).2.length := by
  unfold sumD
  rw [List.take_succ_eq_append_getElem h, List.map_append, List.sum_append]
  simp [List.getD_eq_getElem?_getD, h]
theorem sumD_bound (l : List Fl) (D : Nat) (hd : ∀ p ∈ l, p.2.length ≤ D) : ∀ i, i ≤ l.length → sumD (l.take i) ≤ i * D
  | 0, _ => by simp [sumD]
  | i + 1, h => by
    have ih := sumD_bound l D hd i (by omega)
    rw [sumD_take (by omega), Nat.add_mul, Nat.one_mul]
    have := hd _ (List.mem_of_getElem? (getD_some (show i < l.length by omega)))
    omega
/-- what Pack says of the files l, whose order is L -/
def packErr (l L : List Fl) : Nat :=
  if 100 < l.length then 14 else if namesErr [] (namesOf l) ≠ 0 then namesErr [] (namesOf l) else if 1048576 < sumD l then 13 else if 1048576 < (packB L).length then 13 else 0
def packed (l L : List Fl) : List UInt8 := if packErr l L = 0 then packB L else []
def PackPost (w : World) (l L : List Fl) (e : Ending) (w' : World) : Prop :=
  ∃ v, e = .returned (.tuple #[v, .int .i64 (packErr l L : Nat)]) ∧ w'.ownsRow w.heap.size 5 1 v (packed l L).length (u8s (packed l L)) ∧ Below w.heap.size w w'
theorem pack_fails {w w' : World} {l L : List Fl} {n : Nat} (h : packErr l L = n) (hn : n ≠ 0) (hb : Below w.heap.size w w') : PackPost w l L (.returned (.tuple #[.slice none 0 0, .int .i64 (n : Nat)])) w' := by
  refine ⟨_, by rw [h], ?_, hb⟩
  unfold packed
  rw [if_neg (by rw [h]; exact hn)]
  exact World.ownsRow_nil _ _ _ _
def PcRel (w : World) (l : List Fl) (tv iv : Value) (wr : World) : Prop := ∃ i, i ≤ l.length ∧ iv = .int .i64 (i : Nat) ∧ tv = .int .i64 (sumD (l.take i) : Nat) ∧ Below w.heap.size w wr
set_option maxHeartbeats 4000000 in
set_option maxRecDepth 100000 in
theorem packed_of (w : World) (A : Option Addr) (c : Nat) (l L : List Fl) (hf : FlAt w A c l) (hm : MaxL w) (hs : ∀ p ∈ l, p.1.size ≤ 1048576) (hd : ∀ p ∈ l, p.2.length ≤ 1048576) (hbig : l.length ≤ 1048576)
    (hr : l.length ≤ 100 → namesErr [] (namesOf l) = 0 → (∀ p, p ∈ L → p ∈ l) ∧ L.length = l.length ∧ ∀ w', Below w.heap.size w w' → Calls Tryd.prog 48 #[.slice A l.length c] w' (BnPost w' L)) :
    Calls Tryd.prog 13 #[.slice A l.length c] w (PackPost w l L) := by
  have hn := names_any w A c l hf hbig hs hm
  unfold NmPost at hn
  have Hf := Lib.hid hf
  have Hs := Lib.hid hs
  have Hd := Lib.hid hd
  have Hr := Lib.hid hr
  have Hsb := Lib.hid (sumD_bound l 1048576 hd)
  clear hf hs hd hm hr
  obtain ⟨k, hk⟩ : ∃ k, k = namesErr [] (namesOf l) := ⟨_, rfl⟩
  rw [← hk] at hn
  have Hk := Lib.hid hk
  have Hn := Lib.hid hn
  clear hn hk
  by_cases h100 : 100 < l.length
  · have hI : (100 : Int) < l.length := by omega
    have Hfin := Lib.hid (pack_fails (w := w) (w' := w) (l := l) (L := L) (n := 14) (by unfold packErr; rw [if_pos h100]) (by decide) (Below.refl _ _))
    clear Hn
    go_enter Tryd.func13, Tryd.ntmps13
    go_wp2_with fail
    go_ret2
    exact Hfin.out
  have hI : ¬ (100 : Int) < l.length := by omega
  go_enter Tryd.func13, Tryd.ntmps13
  go_wp2_with fail
  refine Hn.out.mono ?_
  rintro e w1 ⟨rfl, hb⟩
  have Hb := Lib.hid hb
  clear hb Hn
  by_cases hz : k = 0
  · subst hz
    go_wp2_with fail
    go_loopw [5, 19] (fun tv iv wr => PcRel w l tv iv wr) (fun _ iv _ => l.length - (intOf iv).toNat)
    case atStart => exact ⟨0, by omega, rfl, rfl, Hb.out⟩
    case round =>
      clear Hb
      obtain ⟨i, hi, rfl, rfl, hB⟩ := hrel
      have HB := Lib.hid hB
      clear hB
      have hir : (0 : Int) ≤ i := by omega
      by_cases hlt : i < l.length
      · have hlI : (i : Int) < l.length := by omega
        obtain ⟨bb, oo, Ai, ci, rfl, f1, f2, hbs⟩ := (Hf.out.below HB.out).at_ hlt
        have hpd := Hd.out _ (List.mem_of_getElem? (getD_some hlt))
        have Hst := Lib.hid (sumD_take hlt)
        have hsb := Nat.le_trans (Hsb.out i hi) (Nat.mul_le_mul_right _ hi)
        have Hfin : Hid (∀ wr', Below wr.heap.size wr wr' → PcRel w l (.int .i64 ((sumD (l.take i) : Nat) + ((l.getD i noFl).2.length : Nat) : Int)) (.int .i64 ((i : Int) + 1)) wr') := Lib.hid fun wr' hb => ⟨i + 1, by omega, by simp, by rw [Hst.out]; simp, HB.out.trans (hb.mono HB.out.size)⟩
        clear hbs
        generalize l.getD i noFl = p at *
        generalize sumD (l.take i) = sd at *
        go_wp2_with fail
        go_roundw
        case rel => exact Hfin.out _ ((Below.refl _ _).alloc (Nat.le_refl _) _)
        case measure => simp [intOf]; omega
      · obtain rfl : i = l.length := by omega
        have hsb := Hsb.out l.length hi
        rw [List.take_of_length_le (Nat.le_refl _)] at hsb ⊢
        obtain ⟨hmem, hlen, hris⟩ := Hr.out (by omega) Hk.out.symm
        obtain ⟨sd, hsd⟩ : ∃ sd, sd = sumD l := ⟨_, rfl⟩
        rw [← hsd] at hsb ⊢
        have Hsd := Lib.hid hsd
        clear hsd
        by_cases h13 : 1048576 < sd
        · have h13I : (1048576 : Int) < sd := by omega
          have Hfin := Lib.hid (pack_fails (w := w) (w' := wr) (l := l) (L := L) (n := 13) (by unfold packErr; rw [if_neg h100, ← Hk.out, if_neg (by simp), ← Hsd.out, if_pos h13]) (by decide) HB.out)
          clear hmem hlen hris
          go_wp2_with fail
          go_ret2
          exact Hfin.out
        · have h13I : ¬ (1048576 : Int) < sd := by omega
          have Hris := Lib.hid (hris wr HB.out)
          have Hmem := Lib.hid hmem
          have Hlen := Lib.hid hlen
          clear hris hmem hlen
          go_wp2_with fail
          refine Hris.out.mono ?_
          rintro e w2 ⟨v, rfl, hv, hb⟩
          obtain ⟨Az, cz, rfl, hfl⟩ := hv.files
          have Hb2 := Lib.hid (HB.out.trans (hb.mono HB.out.size))
          have Hpk := Lib.hid (pack_any w2 Az cz L hfl (by rw [Hlen.out]; omega) (fun p hp => Hs.out p (Hmem.out p hp)) (fun p hp => Hd.out p (Hmem.out p hp)))
          clear hb hv hfl
          go_wp2_with fail
          refine Hpk.out.mono ?_
          rintro e w3 ⟨v, rfl, hown, hb⟩
          have Hb3 := Lib.hid (Hb2.out.trans (hb.mono Hb2.out.size))
          obtain ⟨N, hN⟩ : ∃ N, N = (packB L).length := ⟨_, rfl⟩
          rw [← hN] at hown
          obtain ⟨Ap, cp, rfl, _, _, _, _⟩ := own_form hown
          have Hown := Lib.hid hown
          have HN := Lib.hid hN
          clear hb hown hN Hpk
          by_cases hL : 1048576 < N
          · have hLI : (1048576 : Int) < N := by omega
            have Hfin := Lib.hid (pack_fails (w := w) (w' := w3) (l := l) (L := L) (n := 13) (by unfold packErr; rw [if_neg h100, ← Hk.out, if_neg (by simp), ← Hsd.out, if_neg h13, ← HN.out, if_pos hL]) (by decide) Hb3.out)
            go_wp2_with fail
            go_ret2
            exact Hfin.out
          · have hLI : ¬ (1048576 : Int) < N := by omega
            have hpe : packErr l L = 0 := by unfold packErr; rw [if_neg h100, ← Hk.out, if_neg (by simp), ← Hsd.out, if_neg h13, ← HN.out, if_neg hL]
            have Hfin : Hid (PackPost w l L (.returned (.tuple #[.slice Ap N cp, .int .i64 0])) w3) := Lib.hid ⟨_, by rw [hpe]; rfl, by
              unfold packed
              rw [if_pos hpe, ← HN.out]
              exact own_base Hown.out Hb2.out.size, Hb3.out⟩
            clear hpe
            go_wp2_with fail
            go_ret2
            exact Hfin.out
  · have hnb : ((k : Int) != 0) = true := by rw [bne_iff_ne]; omega
    have Hfin := Lib.hid (pack_fails (w := w) (w' := w1) (l := l) (L := L) (n := k) (by unfold packErr; rw [if_neg h100, ← Hk.out, if_pos hz]) hz Hb.out)
    clear hz
    go_wp2_with fail
    go_ret2
    exact Hfin.out
end Go.Proofs.YtdmladdpbdcpjaaDoor
