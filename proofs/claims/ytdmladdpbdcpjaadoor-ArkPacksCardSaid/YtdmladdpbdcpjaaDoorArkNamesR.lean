/-
  The first error of names: the reference's. (Printed by wip/abexp.py.)
-/
import Derived.Test.YtdmladdpbdcpjaaDoorArkNamed
import Derived.Test.YtdmladdpbdcpjaaDoorArkAbs
namespace Go.Proofs.YtdmladdpbdcpjaaDoor
open Go.RowKit

set_option linter.unusedSimpArgs false

attribute [local go_sem] lt1 lt2 lt3 lt4 lt5 lt6

theorem small_eq {a b : List UInt8} : ((ByteArray.mk a.toArray).toList == (ByteArray.mk b.toArray).toList) = decide (a = b) := by
  rw [toList_toL, toList_toL]
  show (a == b) = _
  by_cases h : a = b
  · subst h; simp
  · simp [h]
theorem nm_get {l : List Fl} {k i : Nat} (hk : k < i) (hi : i ≤ l.length) : lowN (toL (l.getD k noFl).1) ∈ ((namesOf l).take i).map lowN := by
  refine List.mem_map.2 ⟨toL (l.getD k noFl).1, ?_, rfl⟩
  rw [← namesOf_getD (by omega)]
  have : ((namesOf l).take i)[k]? = some ((namesOf l).getD k []) := by
    rw [List.getElem?_take_of_lt hk, List.getD_eq_getElem?_getD, List.getElem?_eq_getElem (by rw [namesOf_len]; omega)]
    rfl
  exact List.mem_of_getElem? this
theorem nm_not {l : List Fl} {i : Nat} {x : List UInt8} (hi : i ≤ l.length) (h : ∀ j, j < i → lowN (toL (l.getD j noFl).1) ≠ x) : x ∉ ((namesOf l).take i).map lowN := by
  intro hm
  obtain ⟨y, hy, rfl⟩ := List.mem_map.1 hm
  obtain ⟨j, hj, rfl⟩ := List.getElem_of_mem hy
  rw [List.length_take, namesOf_len] at hj
  refine h j (by omega) ?_
  rw [← namesOf_getD (by omega), List.getElem_take, List.getD_eq_getElem?_getD, List.getElem?_eq_getElem (by rw [namesOf_len]; omega)]
  rfl
def NrRel (w : World) (l : List Fl) (iv : Value) (wr : World) : Prop := ∃ i, i ≤ l.length ∧ iv = .int .i64 (i : Nat) ∧ namesErr [] ((namesOf l).take i) = 0 ∧ Below w.heap.size w wr
def NsRel (w : World) (l : List Fl) (i : Nat) (kv : Value) (wr : World) : Prop := ∃ k, k ≤ i ∧ kv = .int .i64 (k : Nat) ∧ (∀ j, j < k → lowN (toL (l.getD j noFl).1) ≠ lowN (toL (l.getD i noFl).1)) ∧ Below w.heap.size w wr
set_option maxHeartbeats 4000000 in
set_option maxRecDepth 100000 in
theorem names_ref (w : World) (A : Option Addr) (c : Nat) (l : List Fl) (hf : FlAt w A c l) (hl : l.length ≤ 1048576) (hs : ∀ p ∈ l, p.1.size ≤ 1048576) :
    Calls Tryd.prog 49 #[.slice A l.length c] w (NmPost w l) := by
  have Hf := Lib.hid hf
  have Hs := Lib.hid hs
  clear hf hs
  have Hp : Hid (∀ n w', namesErr [] (namesOf l) = n → Below w.heap.size w w' → NmPost w l (.returned (.int .i64 (n : Nat))) w') := Lib.hid fun n w' h hb => ⟨by rw [h], hb⟩
  go_enter Tryd.func49, Tryd.ntmps49
  go_wp2_with fail
  go_loopw [3] (fun iv wr => NrRel w l iv wr) (fun iv _ => l.length - (intOf iv).toNat)
  case atStart => exact ⟨0, by omega, rfl, rfl, Below.refl _ _⟩
  case round =>
    obtain ⟨i, hi, rfl, h0, hB⟩ := hrel
    have H00 := Lib.hid h0
    have HB := Lib.hid hB
    clear h0 hB
    have hir : (0 : Int) ≤ i := by omega
    by_cases hlt : i < l.length
    · have hlI : (i : Int) < l.length := by omega
      have hlI64 : (i : Int) ≤ 1048576 := by omega
      obtain ⟨bb, oo, Ai, ci, hA, g1, g2, _⟩ := (Hf.out.below HB.out).at_ hlt
      subst hA
      have hps := Hs.out _ (List.mem_of_getElem? (getD_some hlt))
      have hnx := names_next (N := namesOf l) (i := i) (by rw [namesOf_len]; exact hlt) H00.out
      rw [namesOf_getD hlt] at hnx
      have Hnx := Lib.hid hnx
      have hvr := valid_ref wr (l.getD i noFl).1 hps
      unfold ValidPost at hvr
      clear hnx g2
      obtain ⟨p, hp⟩ : ∃ p, p = (l.getD i noFl).1 := ⟨_, rfl⟩
      have Hpi := Lib.hid hp
      rw [← hp] at g1 hvr hps
      clear hp
      by_cases hval : validName (toL p) = true
      case neg =>
        have hval : validName (toL p) = false := by simpa using hval
        have Hfin : Hid (namesErr [] (namesOf l) = 1) := Lib.hid (by
          have h1 : nameErr (((namesOf l).take i).map lowN) (toL (l.getD i noFl).1) = 1 := by rw [← Hpi.out]; unfold nameErr; rw [hval]; rfl
          rw [names_stop (i := i + 1) (by rw [Hnx.out, h1]; decide), Hnx.out, h1])
        rw [hval] at hvr
        go_wp2_with fail
        refine hvr.mono ?_
        rintro e w2 ⟨rfl, hb⟩
        have Hb := Lib.hid (HB.out.trans (hb.mono HB.out.size))
        clear hvr hb g1
        go_wp2_with fail
        go_ret
        exact Hp.out 1 _ Hfin.out Hb.out
      have Hval := Lib.hid hval
      rw [hval] at hvr
      clear hval
      go_wp2_with fail
      refine hvr.mono ?_
      rintro e w2 ⟨rfl, hb⟩
      have Hb := Lib.hid (HB.out.trans (hb.mono HB.out.size))
      clear hvr hb g1
      go_wp2_with fail
      have Hst : Hid (NsRel w l i (.int .i64 0) w2) := Lib.hid ⟨0, by omega, rfl, fun j hj => by omega, Hb.out⟩
      clear Hb
      go_loopw [5] (fun kv wr => NsRel w l i kv wr) (fun kv _ => i - (intOf kv).toNat)
      case atStart => exact Hst.out
      case round =>
        obtain ⟨k, hk, rfl, hno, hB⟩ := hrel
        have Hno := Lib.hid hno
        have HB2 := Lib.hid hB
        clear hno hB Hst
        have hkr : (0 : Int) ≤ k := by omega
        by_cases hki : k < i
        · have hkI : (k : Int) < i := by omega
          have hkl : (k : Int) < l.length := by omega
          obtain ⟨b1, o1, A1, c1, e1, q1, _, _⟩ := (Hf.out.below HB2.out).at_ (i := k) (by omega)
          obtain ⟨b2, o2, A2, c2, e2, q2, _, _⟩ := (Hf.out.below HB2.out).at_ hlt
          simp only [Option.some.injEq, Addr.mk.injEq] at e1 e2
          obtain ⟨rfl, rfl, _⟩ := e1
          obtain ⟨rfl, rfl, _⟩ := e2
          have hqs := Hs.out _ (List.mem_of_getElem? (getD_some (show k < l.length by omega)))
          have Hmem := Lib.hid (nm_get (l := l) hki (by omega))
          have Hnext : Hid (lowN (toL (l.getD k noFl).1) ≠ lowN (toL p) → ∀ w', Below w.heap.size w w' → NsRel w l i (.int .i64 ((k : Int) + 1)) w') := Lib.hid fun h w' hb => ⟨k + 1, by omega, rfl, fun j hj => by
            rcases Nat.lt_or_ge j k with h2 | h2
            · exact Hno.out j h2
            · obtain rfl : j = k := by omega
              rw [← Hpi.out]; exact h, hb⟩
          rw [← Hpi.out] at q2
          obtain ⟨q, hq⟩ : ∃ q, q = (l.getD k noFl).1 := ⟨_, rfl⟩
          have Hqi := Lib.hid hq
          rw [← hq] at q1 hqs
          clear hq
          have s1 := fun w1 => small_ref w1 q hqs
          have s2 := fun w1 => small_ref w1 p hps
          unfold LowPost at s1 s2
          have heq := @small_eq (lowN (toL q)) (lowN (toL p))
          generalize (ByteArray.mk (lowN (toL q)).toArray) = Q1 at *
          generalize (ByteArray.mk (lowN (toL p)).toArray) = Q2 at *
          by_cases hlow : lowN (toL q) = lowN (toL p)
          · rw [decide_eq_true hlow] at heq
            have Hfin : Hid (namesErr [] (namesOf l) = 12) := Lib.hid (by
              have h1 : nameErr (((namesOf l).take i).map lowN) (toL (l.getD i noFl).1) = 12 := by
                rw [← Hpi.out]; unfold nameErr; rw [Hval.out, ← hlow, Hqi.out, List.contains_iff_mem.2 Hmem.out]; rfl
              rw [names_stop (i := i + 1) (by rw [Hnx.out, h1]; decide), Hnx.out, h1])
            clear hlow
            go_wp2_with fail
            refine g_plan [none, none, none, none, none, some false, none, none, none, none, none, some false, some true] (fun w' => w'.cell? ⟨bb, oo + k * 2, none⟩ = some (.string q) ∧ w'.cell? ⟨bb, oo + i * 2, none⟩ = some (.string p)) (by kernel_rfl) (by kernel_rfl) ?_ ?_
            · exact ⟨q1, q2⟩
            intro OPS
            simp only [headsOf, tailsOf]
            iterate 10 (with_reducible refine h_val (v := ?_) ?_ ?_; rotate_left; (rintro _ ⟨h1, h2⟩; go_simp; first | done | rfl | (constructor <;> rfl)))
            with_reducible refine h_nil ?_
            with_reducible refine t_one ?_
            refine l_call ?_ ((s1 _).mono ?_)
            · go_simp
            rintro e w3 ⟨rfl, hb3⟩
            refine ⟨_, rfl, ?_⟩
            have q3 := Cells.of_below hb3 _ _ q1
            have q4 := Cells.of_below hb3 _ _ q2
            refine t_keep ⟨q3, q4⟩ ?_
            with_reducible refine t_one ?_
            refine l_call ?_ ((s2 _).mono ?_)
            · go_simp
            rintro e w4 ⟨rfl, hb4⟩
            refine ⟨_, rfl, ?_⟩
            have Hb4 := Lib.hid (HB2.out.drew.trans ((hb3.mono HB2.out.size).trans (hb4.mono (Nat.le_trans HB2.out.size hb3.size))))
            refine t_keep ⟨Cells.of_below hb4 _ _ q3, Cells.of_below hb4 _ _ q4⟩ ?_
            clear hb3 hb4 q1 q2 q3 q4 s1 s2
            with_reducible refine t_one ?_
            iterate 1 (with_reducible refine l_val (v := ?_) (w' := ?_) ?_ ?_; rotate_left 2; (go_simp; first | done | rfl | (constructor <;> rfl)))
            refine t_last ?_
            with_reducible refine t_end ?_
            simp only [Act.put, List.setIfInBounds_toArray, List.set_cons_zero, List.set_cons_succ]
            go_wp2_with fail
            go_ret
            exact Hp.out 12 _ Hfin.out Hb4.out
          · have Hnx2 := Lib.hid (Hnext.out (by rw [← Hqi.out]; exact hlow))
            rw [decide_eq_false hlow] at heq
            clear hlow
            go_wp2_with fail
            refine g_plan [none, none, none, none, none, some false, none, none, none, none, none, some false, some true] (fun w' => w'.cell? ⟨bb, oo + k * 2, none⟩ = some (.string q) ∧ w'.cell? ⟨bb, oo + i * 2, none⟩ = some (.string p)) (by kernel_rfl) (by kernel_rfl) ?_ ?_
            · exact ⟨q1, q2⟩
            intro OPS
            simp only [headsOf, tailsOf]
            iterate 10 (with_reducible refine h_val (v := ?_) ?_ ?_; rotate_left; (rintro _ ⟨h1, h2⟩; go_simp; first | done | rfl | (constructor <;> rfl)))
            with_reducible refine h_nil ?_
            with_reducible refine t_one ?_
            refine l_call ?_ ((s1 _).mono ?_)
            · go_simp
            rintro e w3 ⟨rfl, hb3⟩
            refine ⟨_, rfl, ?_⟩
            have q3 := Cells.of_below hb3 _ _ q1
            have q4 := Cells.of_below hb3 _ _ q2
            refine t_keep ⟨q3, q4⟩ ?_
            with_reducible refine t_one ?_
            refine l_call ?_ ((s2 _).mono ?_)
            · go_simp
            rintro e w4 ⟨rfl, hb4⟩
            refine ⟨_, rfl, ?_⟩
            have Hb4 := Lib.hid (HB2.out.drew.trans ((hb3.mono HB2.out.size).trans (hb4.mono (Nat.le_trans HB2.out.size hb3.size))))
            refine t_keep ⟨Cells.of_below hb4 _ _ q3, Cells.of_below hb4 _ _ q4⟩ ?_
            clear hb3 hb4 q1 q2 q3 q4 s1 s2
            with_reducible refine t_one ?_
            iterate 1 (with_reducible refine l_val (v := ?_) (w' := ?_) ?_ ?_; rotate_left 2; (go_simp; first | done | rfl | (constructor <;> rfl)))
            refine t_last ?_
            with_reducible refine t_end ?_
            simp only [Act.put, List.setIfInBounds_toArray, List.set_cons_zero, List.set_cons_succ]
            have Hf2 := Lib.hid (Hnx2.out _ Hb4.out)
            go_wp2_with fail
            exact ⟨Hf2.out, by simp [intOf]; omega⟩
        · obtain rfl : k = i := by omega
          have Hfin : Hid (NrRel w l (.int .i64 ((k : Int) + 1)) wr) := Lib.hid ⟨k + 1, by omega, rfl, by
            rw [Hnx.out]
            exact nameErr_zero.2 ⟨by rw [← Hpi.out]; exact Hval.out, nm_not hi Hno.out⟩, HB2.out⟩
          go_wp2_with fail
          exact ⟨Hfin.out, by simp [intOf]; omega⟩
    · obtain rfl : i = l.length := by omega
      have Hfin : Hid (namesErr [] (namesOf l) = 0) := Lib.hid (by have := H00.out; rw [List.take_of_length_le (by rw [namesOf_len]; exact Nat.le_refl _)] at this; exact this)
      go_wp2_with fail
      go_ret
      exact Hp.out 0 _ Hfin.out HB.out
end Go.Proofs.YtdmladdpbdcpjaaDoor
