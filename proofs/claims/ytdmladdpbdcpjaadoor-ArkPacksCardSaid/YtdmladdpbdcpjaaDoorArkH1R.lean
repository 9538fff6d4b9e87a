/-
  H1 and the sum of a manifest: the reference's. (Printed by wip/abexp.py.)
-/
import Derived.Test.YtdmladdpbdcpjaaDoorArkLnA
import Derived.Test.YtdmladdpbdcpjaaDoorArkNamesR
import Derived.Test.YtdmladdpbdcpjaaDoorArkShRA
import Derived.Test.YtdmladdpbdcpjaaDoorArkB64R
namespace Go.Proofs.YtdmladdpbdcpjaaDoor
open Go.RowKit

set_option linter.unusedSimpArgs false

attribute [local go_sem] lt1 lt2 lt3 lt4 lt5 lt6

set_option maxHeartbeats 4000000 in
set_option maxRecDepth 100000 in
theorem h1_ref (w : World) (A : Option Addr) (c : Nat) (l : List Fl) (hf : FlAt w A c l) (hl : l.length ≤ 1024) (hs : ∀ p ∈ l, p.1.size ≤ 1048576) (hd : ∀ p ∈ l, p.2.length ≤ 1048000) (hsum : (linesOf (byName l)).length ≤ 1048000) (hmem : ∀ p, p ∈ byName l → p ∈ l) :
    Calls Tryd.prog 16 #[.slice A l.length c] w (H1Post l (byName l) w) := by
  have hn := names_ref w A c l hf (by omega) hs
  unfold NmPost at hn
  have Hf := Lib.hid hf
  obtain ⟨L, hL⟩ : ∃ L, L = byName l := ⟨_, rfl⟩
  have Hs : Hid (∀ p ∈ L, p.1.size ≤ 1048576) := Lib.hid (by rw [hL]; exact fun p hp => hs p (hmem p hp))
  have Hd : Hid (∀ p ∈ L, p.2.length ≤ 1048000) := Lib.hid (by rw [hL]; exact fun p hp => hd p (hmem p hp))
  have hLl : L.length ≤ 1024 := by rw [hL, byName_length]; exact hl
  rw [← hL] at hsum
  have HL := Lib.hid hL
  have Hsum := Lib.hid hsum
  have hby := fun w1 (h : FlAt w1 A c l) => byname_ref w1 A c l h (by omega)
  rw [← hL] at hby ⊢
  have Hby := Lib.hid hby
  obtain ⟨i0, hi0, hz0, hz1, hz2⟩ := info_parts infoU8
  clear hs hd hf hL hsum hby hmem
  obtain ⟨n, hnn⟩ : ∃ n, n = namesErr [] (namesOf l) := ⟨_, rfl⟩
  rw [← hnn] at hn
  have Hn := Lib.hid hnn
  clear hnn
  go_enter Tryd.func16, Tryd.ntmps16
  go_wp2_with fail
  refine hn.mono ?_
  rintro e w0 ⟨rfl, hb0⟩
  have Hb0 := Lib.hid hb0
  clear hn hb0
  by_cases hz : n = 0
  case neg =>
    have hne : ((n : Int) != 0) = true := by rw [bne_iff_ne]; omega
    have Hz := Lib.hid hz
    clear hz
    go_wp2_with fail
    go_ret2
    exact ⟨by rw [← Hn.out, if_neg Hz.out]; rfl, Hb0.out⟩
  subst hz
  go_wp2_with fail
  refine (Hby.out w0 (Hf.out.below Hb0.out)).mono ?_
  rintro e w1 ⟨v, rfl, hown, hB1⟩
  obtain ⟨Av, cv, rfl, hfa⟩ := hown.files
  have Hfa := Lib.hid hfa
  have HB1 := Lib.hid (Hb0.out.trans (hB1.mono Hb0.out.size))
  have hsz1 := HB1.out.size
  clear hown hfa hB1
  go_wp2_with fail
  have Hst : Hid (LnRel w1 L (.slice none 0 0) (.int .i64 0) w1) := Lib.hid ⟨0, by omega, rfl, World.ownsRow_nil _ _ _ _, Below.refl _ _⟩
  go_loopw [6, 7] (fun ov iv wr => LnRel w1 L ov iv wr) (fun _ iv _ => L.length - (intOf iv).toNat)
  case atStart => exact Hst.out
  case round =>
    obtain ⟨i, hi, rfl, hown, hB⟩ := hrel
    have hsz := hB.size
    obtain ⟨Ao, co, rfl, _, _, _, _⟩ := own_form hown
    have hol : (linesOf (L.take i)).length ≤ 1024 * 1048643 := by
      have h1 := linesOf_len (L.take i) 1048576 fun p hp => Hs.out p (List.mem_of_mem_take hp)
      rw [List.length_take] at h1
      exact Nat.le_trans h1 (Nat.mul_le_mul (by omega) (by omega))
    have hir : (0 : Int) ≤ i := by omega
    have Hown := Lib.hid hown
    have HB := Lib.hid hB
    clear hown hB Hst
    by_cases hlt : i < L.length
    · have hlI : (i : Int) < L.length := by omega
      obtain ⟨bb, oo, Ai, ci, hA, g1, g2, hb⟩ := (Hfa.out.below HB.out).at_ hlt
      subst hA
      have hps := Hs.out _ (List.mem_of_getElem? (getD_some hlt))
      have hpd := Hd.out _ (List.mem_of_getElem? (getD_some hlt))
      have Hstep := Lib.hid (linesOf_take hlt)
      generalize L.getD i noFl = p at *
      generalize linesOf (L.take i) = O at *
      have Hb := Lib.hid hb
      have F1 := Lib.hid g1
      have F2 := Lib.hid g2
      obtain ⟨Hx, hHx⟩ : ∃ Hx : ByteArray, Hx = ⟨(hexOf (sha p.2)).toArray⟩ := ⟨_, rfl⟩
      have HHx := Lib.hid (show toL Hx = hexOf (sha p.2) by rw [hHx]; rfl)
      have hq1 : ¬ 9223372036854775807 < 66 + p.1.size := by omega
      have hq2 : ¬ 9223372036854775807 < 66 + p.1.size + 1 := by omega
      have hq3 : ¬ 9223372036854775807 < 67 + p.1.size := by omega
      have hHs : Hx.size = 64 := by rw [← toL_len, HHx.out, hexOf_length, sha_len]
      clear hb g1 g2
      go_wp2_with fail
      with_reducible refine g_plan [none, none, none, none, none, none, some false, some false, some false, none, none, none, none, none, some false, some false, some true, some true] (fun w' => w'.cell? ⟨bb, oo + i * 2, none⟩ = some (.string p.1) ∧ w'.cell? ⟨bb, oo + i * 2 + 1, none⟩ = some (.slice Ai p.2.length ci)) (by kernel_rfl) (by kernel_rfl) ?_ ?_
      · exact ⟨F1.out, F2.out⟩
      intro OPS
      simp only [headsOf, tailsOf]
      iterate 11 (with_reducible refine h_val (v := ?_) ?_ ?_; rotate_left; (rintro _ ⟨h1, h2⟩; go_simp; first | done | rfl | (constructor <;> rfl)))
      with_reducible refine h_nil ?_
      with_reducible refine t_one ?_
      refine l_call ?_ ((sha_ref _ p.2 Ai ci ?_ hpd).mono ?_)
      · go_simp
      · exact Hb.out.keep fun _ _ h => h
      rintro e w2 ⟨v2, rfl, hown2, hb2⟩
      have hb2' : Below wr.heap.size wr w2 := ⟨hb2.os, hb2.tape, hb2.output, hb2.size, hb2.block⟩
      obtain ⟨A2, c2, rfl, hbs2⟩ := own_bs hown2
      refine ⟨_, rfl, ?_⟩
      have F3 := Lib.hid (Cells.of_below hb2' _ _ F1.out)
      have F4 := Lib.hid (Cells.of_below hb2' _ _ F2.out)
      refine t_keep ⟨F3.out, F4.out⟩ ?_
      with_reducible refine t_one ?_
      refine l_call ?_ ((hex_ref _ (sha p.2) A2 c2 hbs2 (by rw [sha_len]; omega)).mono ?_)
      · go_simp
      rintro e w3 ⟨rfl, hb3⟩
      rw [← hHx]
      clear hHx
      refine ⟨_, rfl, ?_⟩
      have F5 := Lib.hid (Cells.of_below hb3 _ _ F3.out)
      have F6 := Lib.hid (Cells.of_below hb3 _ _ F4.out)
      refine t_keep ⟨F5.out, F6.out⟩ ?_
      have hbw3 : Below wr.heap.size wr w3 := hb2'.trans (hb3.mono hb2'.size)
      have Hbw3 := Lib.hid hbw3
      have Hown3 : Hid (w3.ownsRow w1.heap.size 5 1 (.slice Ao O.length co) O.length (u8s O)) := Lib.hid (own_keep Hown.out fun g _ hg => (hbw3.block g (lt_of_heap hg)).trans hg)
      clear hb2 hb2' hown2 hbs2 hb3 hbw3
      with_reducible refine t_one ?_
      iterate 1 (with_reducible refine l_val (v := ?_) (w' := ?_) ?_ ?_; rotate_left 2; (go_simp; first | done | rfl | (constructor <;> rfl)))
      refine t_keep ⟨F5.out, F6.out⟩ ?_
      with_reducible refine t_one ?_
      iterate 1 (with_reducible refine l_val (v := ?_) (w' := ?_) ?_ ?_; rotate_left 2; (go_simp; first | done | rfl | (constructor <;> rfl)))
      refine t_keep ⟨F5.out, F6.out⟩ ?_
      with_reducible refine t_one ?_
      iterate 1 (with_reducible refine l_val (v := ?_) (w' := ?_) ?_ ?_; rotate_left 2; (go_simp; first | done | rfl | (constructor <;> rfl)))
      refine t_keep ⟨F5.out, F6.out⟩ ?_
      with_reducible refine t_one ?_
      obtain ⟨S, hS⟩ : ∃ S : ByteArray, S = ((Hx ++ ⟨#[32, 32]⟩) ++ p.1) ++ ⟨#[10]⟩ := ⟨_, rfl⟩
      have hSl : toL S = lineOf p := by rw [hS, str_join, str_join, str_join, HHx.out]; rfl
      have hSs : S.size = 67 + p.1.size := by rw [← toL_len, hSl, lineOf_len]
      refine Lib.wpList_append_own_string _ rfl (.tmp 21) (.tmp 36) 28 9 rfl w1.heap.size 5 i0 Tryd.underlying28 Tryd.underlying9 hi0 hz0 hz1 hz2 (.slice Ao O.length co) O.length (u8s O) ?_ Hown3.out S ?_ (by unfold maxLen; omega) (by omega) (Nat.le_trans hsz Hbw3.out.size) ?_
      · simp [Act.eval, Act.put]
      · rw [hS]; simp [Act.eval, Act.put]
      intro v4 w4 hown4 hgrow4 _
      have Hfin : Hid (LnRel w1 L v4 (.int .i64 ((i : Int) + 1)) w4) := Lib.hid ⟨i + 1, by omega, rfl, by
        rw [Hstep.out, List.length_append, lineOf_len, show u8s (O ++ lineOf p) = u8s O ++ u8s (lineOf p) by simp [u8s], ← hSl, ← strCells_toL, ← hSs]
        exact hown4, (HB.out.trans (Hbw3.out.mono hsz)).grown hgrow4 (Nat.le_trans hsz Hbw3.out.size) (fun k hk => (own_blk Hown.out k hk).1)⟩
      clear hown4 hgrow4
      refine t_last ?_
      with_reducible refine t_one ?_
      iterate 1 (with_reducible refine l_val (v := ?_) (w' := ?_) ?_ ?_; rotate_left 2; (go_simp; first | done | rfl | (constructor <;> rfl)))
      refine t_last ?_
      with_reducible refine t_end ?_
      simp only [Act.put, List.setIfInBounds_toArray, List.set_cons_zero, List.set_cons_succ]
      go_wp2_with fail
      exact ⟨Hfin.out, by simp [intOf]; omega⟩
    · obtain rfl : i = L.length := by omega
      rw [List.take_length] at Hown ⊢
      have Hbs := Lib.hid (row_sl' Hown.out)
      obtain ⟨X, hX⟩ : ∃ X, X = linesOf L := ⟨_, rfl⟩
      rw [← hX] at Hown Hsum Hbs ⊢
      have HX := Lib.hid hX
      have Hlt := Lib.hid (HB1.out.trans (HB.out.mono hsz1))
      clear hX hol Hown
      go_wp2_with fail
      refine (sha_ref wr X Ao co Hbs.out Hsum.out).mono ?_
      rintro e w2 ⟨v2, rfl, hown2, hb2⟩
      obtain ⟨A2, c2, rfl, hbs2⟩ := own_bs hown2
      have Hb2 := Lib.hid (Hlt.out.trans (hb2.mono Hlt.out.size))
      have Hbs2 := Lib.hid hbs2
      clear hown2 hb2 hbs2
      go_wp2_with fail
      refine (base64_ref w2 (sha X) A2 c2 Hbs2.out (by rw [sha_len]; omega)).mono ?_
      rintro e w3 ⟨rfl, hb3⟩
      have Hb3 := Lib.hid (Hb2.out.trans (hb3.mono Hb2.out.size))
      have hBs : ¬ 9223372036854775807 < 3 + (ByteArray.mk (b64 (sha X)).toArray).size := by
        have h1 : (ByteArray.mk (b64 (sha X)).toArray).size = (b64 (sha X)).length := by rw [← toL_len]; rfl
        have h2 := b64_length (sha X)
        rw [sha_len] at h2
        omega
      obtain ⟨Bs64, hB64⟩ : ∃ B : ByteArray, B = ⟨(b64 (sha X)).toArray⟩ := ⟨_, rfl⟩
      rw [← hB64] at hBs ⊢
      have HB64 := Lib.hid hB64
      clear hb3 hB64
      go_wp2_with fail
      go_ret2
      have hfin : (⟨#[104, 49, 58]⟩ : ByteArray) ++ Bs64 = ⟨(sumOf L).toArray⟩ := toL_inj (by rw [str_join, HB64.out, HX.out]; rfl)
      refine ⟨?_, Hb3.out⟩
      rw [← Hn.out, if_pos rfl, ← hfin]
      rfl
end Go.Proofs.YtdmladdpbdcpjaaDoor
