/-
  The reference's archive of any files, by the plain archive. (Printed by wip/abexp.py.)
-/
import Derived.Test.YtdmladdpbdcpjaaDoorArkRuA
import Derived.Test.YtdmladdpbdcpjaaDoorArkPkA
namespace Go.Proofs.YtdmladdpbdcpjaaDoor
open Go.RowKit

set_option linter.unusedSimpArgs false

attribute [local go_sem] lt1 lt2 lt3 lt4 lt5 lt6

set_option maxHeartbeats 8000000 in
set_option maxRecDepth 100000 in
theorem archive_ref (w : World) (A : Option Addr) (c : Nat) (l : List Fl) (hf : FlAt w A c l) (hl : l.length ≤ 1024) (hb : (locsB l).length ≤ 1048576) :
    Calls Tryd.prog 50 #[.slice A l.length c] w (PkPost w l) := by
  have Hf := Lib.hid hf
  have Hlt := Lib.hid (locsB_take_le l)
  have Hcl := Lib.hid (censB_le l)
  have Hle := Lib.hid (fun p (hp : p ∈ l) => locB_le hp)
  clear hf
  have H0 : Hid (Ar w [] [] (.slice none 0 0) (.slice none 0 0) w) := Lib.hid ⟨World.ownsRow_nil _ _ _ _, World.ownsRow_nil _ _ _ _, Apart.nil, Below.refl _ _⟩
  go_enter Tryd.func50, Tryd.ntmps50
  go_wp2_with fail
  go_loopw [3, 4, 5] (fun bv cv iv wr => ArRel w l bv cv iv wr) (fun _ _ iv _ => l.length - (intOf iv).toNat)
  case atStart => exact ⟨0, by omega, rfl, by simpa [locsB, censB] using H0.out⟩
  case round =>
    clear H0
    obtain ⟨i, hi, rfl, hA⟩ := hrel
    have HA := Lib.hid hA
    obtain ⟨Ab, cb, rfl, _, _, _, _⟩ := own_form hA.b
    obtain ⟨cv, hcv⟩ : ∃ cv, cv = u4 := ⟨_, rfl⟩
    subst hcv
    clear hA
    have hir : (0 : Int) ≤ i := by omega
    have hBl := Hlt.out i
    have hCl := Hcl.out i hi
    by_cases hlt : i < l.length
    · have hlI : (i : Int) < l.length := by omega
      obtain ⟨bb, oo, Ai, ci, rfl, f1, f2, hbs⟩ := Hf.out.at_ hlt
      have hpl := Hle.out _ (List.mem_of_getElem? (getD_some hlt))
      have Hst := Lib.hid (locsB_take hlt)
      have Hsc := Lib.hid (censB_succ l i)
      have Hbg : Hid (begs l i = (locsB (l.take i)).length) := Lib.hid rfl
      have Hcell := Lib.hid (fun w' (h : Below w.heap.size w w') => And.intro (Cells.of_below h _ _ f1) (And.intro (Cells.of_below h _ _ f2) (Bs_below hbs h)))
      clear f1 f2 hbs
      generalize l.getD i noFl = p at *
      obtain ⟨B, hB⟩ : ∃ B, B = locsB (l.take i) := ⟨_, rfl⟩
      obtain ⟨C, hC⟩ : ∃ C, C = censB l i := ⟨_, rfl⟩
      rw [← hB] at HA hBl hCl Hst Hbg
      rw [← hC] at HA hCl Hsc
      have HB := Lib.hid hB
      have HC := Lib.hid hC
      clear hB hC
      obtain ⟨e0, e1, e2⟩ := Hcell.out _ HA.out.below
      rw [← HB.out]
      have E2 := Lib.hid e2
      have hkc := crcOf_lt p.2
      have Hkc := Lib.hid (crc_ref wr p.2 Ai ci e2)
      clear e2
      go_wp2_with fail
      refine Hkc.out.mono ?_
      rintro e w0 ⟨rfl, rfl⟩
      obtain ⟨kc, hkcE⟩ : ∃ k, k = crcOf p.2 := ⟨_, rfl⟩
      rw [← hkcE] at hkc ⊢
      have HkcE := Lib.hid hkcE
      clear hkcE Hkc e0 e1
      have hkw : IntKind.i64.wrap (kc : Int) = kc := by rw [IntKind.wrap_i64]; omega
      go_wp2_with (first | (at_builtin; refine append_bs_at rfl _ _ rfl w.heap.size (.slice Ab B.length cb) B rfl (HA.out.alloc _).b (some ⟨w0.heap.size, 0, none⟩) 4 4 [80, 75, 3, 4] rfl rfl (Bs.of_block (heap_alloc_new _ _) (by decide) (by decide)) (by simp; omega) (by have := HA.out.below.size; simp; omega) ?_))
      intro v1 w1 ho hg
      have HA1 := Lib.hid ((HA.out.alloc _).sb ho hg)
      obtain ⟨B1, hX⟩ : ∃ X, X = B ++ [80, 75, 3, 4] := ⟨_, rfl⟩
      have hl1 : B1.length = B.length + 4 := by rw [hX, List.length_append] <;> first | rfl | (rw [lesB_length]; rfl) | (rw [leB_length]) | (rw [toL_length])
      rw [← hX] at HA1
      have HE1 := Lib.hid hX
      clear ho hg hX HA
      clear hkw
      go_wp2_with fail
      refine (puts_ref _ w.heap.size _ 5 v1 B1 [20, 0, 0, 0, 33] 5 rfl (HA1.out.alloc _).b (by omega) (by intro n hn; simp only [List.mem_cons, List.not_mem_nil, or_false] at hn; omega) (by simp) (heap_alloc_new _ _) (by have := HA1.out.below.size; simp; omega)).mono ?_
      rintro e w2 ⟨v2, rfl, ho, hg⟩
      have HA2 := Lib.hid ((HA1.out.alloc _).sb ho hg)
      obtain ⟨B2, hX⟩ : ∃ X, X = B1 ++ lesB 2 [20, 0, 0, 0, 33] := ⟨_, rfl⟩
      have hl2 : B2.length = B1.length + 10 := by rw [hX, List.length_append] <;> first | rfl | (rw [lesB_length]; rfl) | (rw [leB_length]) | (rw [toL_length])
      rw [← hX] at HA2
      have HE2 := Lib.hid hX
      clear ho hg hX HA1
      go_wp2_with fail
      refine (put_ref _ w.heap.size v2 B2 kc 4 rfl HA2.out.b (by omega) (by omega) (by omega) HA2.out.below.size).mono ?_
      rintro e w3 ⟨v3, rfl, ho, hg⟩
      have HA3 := Lib.hid (HA2.out.sb ho hg)
      obtain ⟨B3, hX⟩ : ∃ X, X = B2 ++ leB 4 kc := ⟨_, rfl⟩
      have hl3 : B3.length = B2.length + 4 := by rw [hX, List.length_append] <;> first | rfl | (rw [lesB_length]; rfl) | (rw [leB_length]) | (rw [toL_length])
      rw [← hX] at HA3
      have HE3 := Lib.hid hX
      clear ho hg hX HA2
      go_wp2_with fail
      refine (put_ref _ w.heap.size v3 B3 p.2.length 4 rfl HA3.out.b (by omega) (by omega) (by omega) HA3.out.below.size).mono ?_
      rintro e w4 ⟨v4, rfl, ho, hg⟩
      have HA4 := Lib.hid (HA3.out.sb ho hg)
      obtain ⟨B4, hX⟩ : ∃ X, X = B3 ++ leB 4 p.2.length := ⟨_, rfl⟩
      have hl4 : B4.length = B3.length + 4 := by rw [hX, List.length_append] <;> first | rfl | (rw [lesB_length]; rfl) | (rw [leB_length]) | (rw [toL_length])
      rw [← hX] at HA4
      have HE4 := Lib.hid hX
      clear ho hg hX HA3
      go_wp2_with fail
      refine (put_ref _ w.heap.size v4 B4 p.2.length 4 rfl HA4.out.b (by omega) (by omega) (by omega) HA4.out.below.size).mono ?_
      rintro e w5 ⟨v5, rfl, ho, hg⟩
      have HA5 := Lib.hid (HA4.out.sb ho hg)
      obtain ⟨B5, hX⟩ : ∃ X, X = B4 ++ leB 4 p.2.length := ⟨_, rfl⟩
      have hl5 : B5.length = B4.length + 4 := by rw [hX, List.length_append] <;> first | rfl | (rw [lesB_length]; rfl) | (rw [leB_length]) | (rw [toL_length])
      rw [← hX] at HA5
      have HE5 := Lib.hid hX
      clear ho hg hX HA4
      obtain ⟨e0, e1, e2⟩ := Hcell.out _ HA5.out.below
      clear e1 e2
      go_wp2_with fail
      refine (puts_ref _ w.heap.size _ 2 v5 B5 [p.1.size, 0] 2 rfl (HA5.out.alloc _).b (by omega) (by intro n hn; simp only [List.mem_cons, List.not_mem_nil, or_false] at hn; omega) (by simp) (heap_alloc_new _ _) (by have := HA5.out.below.size; simp; omega)).mono ?_
      rintro e w6 ⟨v6, rfl, ho, hg⟩
      have HA6 := Lib.hid ((HA5.out.alloc _).sb ho hg)
      obtain ⟨B6, hX⟩ : ∃ X, X = B5 ++ lesB 2 [p.1.size, 0] := ⟨_, rfl⟩
      have hl6 : B6.length = B5.length + 4 := by rw [hX, List.length_append] <;> first | rfl | (rw [lesB_length]; rfl) | (rw [leB_length]) | (rw [toL_length])
      rw [← hX] at HA6
      have HE6 := Lib.hid hX
      clear ho hg hX HA5
      clear e0
      obtain ⟨e0, e1, e2⟩ := Hcell.out _ HA6.out.below
      go_wp2_with fail
      have E2b := Lib.hid e2
      clear e2
      with_reducible refine g_mix [(0, none), (1, none), (2, none), (3, none), (4, none), (5, none), (7, none), (8, none), (9, none), (10, none), (11, none), (6, some false), (12, some false), (13, none)] (fun w' => w'.cell? ⟨bb, oo + i * 2, none⟩ = some (.string p.1) ∧ w'.cell? ⟨bb, oo + i * 2 + 1, none⟩ = some (.slice Ai p.2.length ci)) (by kernel_rfl) (by kernel_rfl) ?_
      intro OPS
      simp only [mixOf, nthO, consO]
      iterate 11 ((with_reducible refine m_val (v := ?_) ?_ ?_ ?_); rotate_left; (rintro _ ⟨h1, h2⟩; go_simp; first | done | rfl | (constructor <;> rfl)); exact ⟨e0, e1⟩)
      with_reducible refine m_one ?_
      refine append_str_at rfl (.tmp 53) (.tmp 58) rfl w.heap.size v6 B6 ?_ (HA6.out.drewN 1).b p.1 ?_ (by omega) HA6.out.below.size ?_
      · simp [Act.eval, Act.put]
      · simp [Act.eval, Act.put]
      intro v7 w7 ho hg
      clear e0 e1 E2b
      replace HA6 := Lib.hid (HA6.out.drewN 1)
      have HA7 := Lib.hid (HA6.out.sb ho hg)
      obtain ⟨B7, hX⟩ : ∃ X, X = B6 ++ toL p.1 := ⟨_, rfl⟩
      have hl7 : B7.length = B6.length + p.1.size := by rw [hX, List.length_append] <;> first | rfl | (rw [lesB_length]; rfl) | (rw [leB_length]) | (rw [toL_length])
      rw [← hX] at HA7
      have HE7 := Lib.hid hX
      clear ho hg hX HA6
      obtain ⟨e0, e1, e2⟩ := Hcell.out _ HA7.out.below
      refine m_keep ⟨e0, e1⟩ ?_
      with_reducible refine m_one ?_
      refine append_bs_at rfl (.tmp 59) (.tmp 64) rfl w.heap.size v7 B7 ?_ HA7.out.b Ai p.2.length ci p.2 ?_ rfl e2 (by omega) HA7.out.below.size ?_
      · simp [Act.eval, Act.put]
      · simp [Act.eval, Act.put]
      clear e0 e1 e2
      intro v8 w8 ho hg
      have HA8 := Lib.hid (HA7.out.sb ho hg)
      obtain ⟨B8, hX⟩ : ∃ X, X = B7 ++ p.2 := ⟨_, rfl⟩
      have hl8 : B8.length = B7.length + p.2.length := by rw [hX, List.length_append] <;> first | rfl | (rw [lesB_length]; rfl) | (rw [leB_length]) | (rw [toL_length])
      rw [← hX] at HA8
      have HE8 := Lib.hid hX
      clear ho hg hX HA7
      obtain ⟨e0, e1, e2⟩ := Hcell.out _ HA8.out.below
      clear e2
      refine m_keep ⟨e0, e1⟩ ?_
      iterate 1 ((with_reducible refine m_val (v := ?_) ?_ ?_ ?_); rotate_left; (rintro _ ⟨h1, h2⟩; go_simp; first | done | rfl | (constructor <;> rfl)); exact ⟨e0, e1⟩)
      with_reducible refine m_end ?_
      simp only [Act.put, List.setIfInBounds_toArray, List.set_cons_zero, List.set_cons_succ]
      clear e0 e1
      have Hb : Hid (locsB (l.take (i + 1)) = B8) := Lib.hid (by
        rw [Hst.out, HE8.out, HE7.out, HE6.out, HE5.out, HE4.out, HE3.out, HE2.out, HE1.out, HkcE.out]
        simp [locB, lesB, List.append_assoc])
      clear HE1 HE2 HE3 HE4 HE5 HE6 HE7 HE8
      go_wp2_with (first | (at_builtin; refine append_bs_at rfl _ _ rfl w.heap.size cv C rfl (HA8.out.alloc _).c (some ⟨w8.heap.size, 0, none⟩) 4 4 [80, 75, 1, 2] rfl rfl (Bs.of_block (heap_alloc_new _ _) (by decide) (by decide)) (by simp; omega) (by have := HA8.out.below.size; simp; omega) ?_))
      intro v9 w9 ho hg
      have HA9 := Lib.hid ((HA8.out.alloc _).sc ho hg)
      obtain ⟨C9, hX⟩ : ∃ X, X = C ++ [80, 75, 1, 2] := ⟨_, rfl⟩
      have hl9 : C9.length = C.length + 4 := by rw [hX, List.length_append] <;> first | rfl | (rw [lesB_length]; rfl) | (rw [leB_length]) | (rw [toL_length])
      rw [← hX] at HA9
      have HE9 := Lib.hid hX
      clear ho hg hX HA8
      go_wp2_with fail
      refine (puts_ref _ w.heap.size _ 6 v9 C9 [20, 20, 0, 0, 0, 33] 6 rfl (HA9.out.alloc _).c (by omega) (by intro n hn; simp only [List.mem_cons, List.not_mem_nil, or_false] at hn; omega) (by simp) (heap_alloc_new _ _) (by have := HA9.out.below.size; simp; omega)).mono ?_
      rintro e w10 ⟨v10, rfl, ho, hg⟩
      have HA10 := Lib.hid ((HA9.out.alloc _).sc ho hg)
      obtain ⟨C10, hX⟩ : ∃ X, X = C9 ++ lesB 2 [20, 20, 0, 0, 0, 33] := ⟨_, rfl⟩
      have hl10 : C10.length = C9.length + 12 := by rw [hX, List.length_append] <;> first | rfl | (rw [lesB_length]; rfl) | (rw [leB_length]) | (rw [toL_length])
      rw [← hX] at HA10
      have HE10 := Lib.hid hX
      clear ho hg hX HA9
      go_wp2_with fail
      refine (put_ref _ w.heap.size v10 C10 kc 4 rfl HA10.out.c (by omega) (by omega) (by omega) HA10.out.below.size).mono ?_
      rintro e w11 ⟨v11, rfl, ho, hg⟩
      have HA11 := Lib.hid (HA10.out.sc ho hg)
      obtain ⟨C11, hX⟩ : ∃ X, X = C10 ++ leB 4 kc := ⟨_, rfl⟩
      have hl11 : C11.length = C10.length + 4 := by rw [hX, List.length_append] <;> first | rfl | (rw [lesB_length]; rfl) | (rw [leB_length]) | (rw [toL_length])
      rw [← hX] at HA11
      have HE11 := Lib.hid hX
      clear ho hg hX HA10
      go_wp2_with fail
      refine (put_ref _ w.heap.size v11 C11 p.2.length 4 rfl HA11.out.c (by omega) (by omega) (by omega) HA11.out.below.size).mono ?_
      rintro e w12 ⟨v12, rfl, ho, hg⟩
      have HA12 := Lib.hid (HA11.out.sc ho hg)
      obtain ⟨C12, hX⟩ : ∃ X, X = C11 ++ leB 4 p.2.length := ⟨_, rfl⟩
      have hl12 : C12.length = C11.length + 4 := by rw [hX, List.length_append] <;> first | rfl | (rw [lesB_length]; rfl) | (rw [leB_length]) | (rw [toL_length])
      rw [← hX] at HA12
      have HE12 := Lib.hid hX
      clear ho hg hX HA11
      go_wp2_with fail
      refine (put_ref _ w.heap.size v12 C12 p.2.length 4 rfl HA12.out.c (by omega) (by omega) (by omega) HA12.out.below.size).mono ?_
      rintro e w13 ⟨v13, rfl, ho, hg⟩
      have HA13 := Lib.hid (HA12.out.sc ho hg)
      obtain ⟨C13, hX⟩ : ∃ X, X = C12 ++ leB 4 p.2.length := ⟨_, rfl⟩
      have hl13 : C13.length = C12.length + 4 := by rw [hX, List.length_append] <;> first | rfl | (rw [lesB_length]; rfl) | (rw [leB_length]) | (rw [toL_length])
      rw [← hX] at HA13
      have HE13 := Lib.hid hX
      clear ho hg hX HA12
      obtain ⟨e0, e1, e2⟩ := Hcell.out _ HA13.out.below
      clear e1 e2
      go_wp2_with fail
      refine (puts_ref _ w.heap.size _ 5 v13 C13 [p.1.size, 0, 0, 0, 0] 5 rfl (HA13.out.alloc _).c (by omega) (by intro n hn; simp only [List.mem_cons, List.not_mem_nil, or_false] at hn; omega) (by simp) (heap_alloc_new _ _) (by have := HA13.out.below.size; simp; omega)).mono ?_
      rintro e w14 ⟨v14, rfl, ho, hg⟩
      have HA14 := Lib.hid ((HA13.out.alloc _).sc ho hg)
      obtain ⟨C14, hX⟩ : ∃ X, X = C13 ++ lesB 2 [p.1.size, 0, 0, 0, 0] := ⟨_, rfl⟩
      have hl14 : C14.length = C13.length + 10 := by rw [hX, List.length_append] <;> first | rfl | (rw [lesB_length]; rfl) | (rw [leB_length]) | (rw [toL_length])
      rw [← hX] at HA14
      have HE14 := Lib.hid hX
      clear ho hg hX HA13
      clear e0
      go_wp2_with fail
      refine (put_ref _ w.heap.size v14 C14 0 4 rfl HA14.out.c (by omega) (by omega) (by omega) HA14.out.below.size).mono ?_
      rintro e w15 ⟨v15, rfl, ho, hg⟩
      have HA15 := Lib.hid (HA14.out.sc ho hg)
      obtain ⟨C15, hX⟩ : ∃ X, X = C14 ++ leB 4 0 := ⟨_, rfl⟩
      have hl15 : C15.length = C14.length + 4 := by rw [hX, List.length_append] <;> first | rfl | (rw [lesB_length]; rfl) | (rw [leB_length]) | (rw [toL_length])
      rw [← hX] at HA15
      have HE15 := Lib.hid hX
      clear ho hg hX HA14
      go_wp2_with fail
      refine (put_ref _ w.heap.size v15 C15 B.length 4 rfl HA15.out.c (by omega) (by omega) (by omega) HA15.out.below.size).mono ?_
      rintro e w16 ⟨v16, rfl, ho, hg⟩
      have HA16 := Lib.hid (HA15.out.sc ho hg)
      obtain ⟨C16, hX⟩ : ∃ X, X = C15 ++ leB 4 B.length := ⟨_, rfl⟩
      have hl16 : C16.length = C15.length + 4 := by rw [hX, List.length_append] <;> first | rfl | (rw [lesB_length]; rfl) | (rw [leB_length]) | (rw [toL_length])
      rw [← hX] at HA16
      have HE16 := Lib.hid hX
      clear ho hg hX HA15
      obtain ⟨e0, e1, e2⟩ := Hcell.out _ HA16.out.below
      clear e1 e2
      go_wp2_with (first | (at_builtin; refine append_str_at rfl _ _ rfl w.heap.size v16 C16 rfl HA16.out.c p.1 rfl (by omega) HA16.out.below.size ?_))
      intro v17 w17 ho hg
      clear e0
      have HA17 := Lib.hid (HA16.out.sc ho hg)
      obtain ⟨C17, hX⟩ : ∃ X, X = C16 ++ toL p.1 := ⟨_, rfl⟩
      have hl17 : C17.length = C16.length + p.1.size := by rw [hX, List.length_append] <;> first | rfl | (rw [lesB_length]; rfl) | (rw [leB_length]) | (rw [toL_length])
      rw [← hX] at HA17
      have HE17 := Lib.hid hX
      clear ho hg hX HA16
      have Hfin : Hid (ArRel w l v8 v17 (.int .i64 ((i : Int) + 1)) w17) := Lib.hid ⟨i + 1, by omega, by simp, by
        have hc : censB l (i + 1) = C17 := by
          rw [Hsc.out, Hbg.out, HE17.out, HE16.out, HE15.out, HE14.out, HE13.out, HE12.out, HE11.out, HE10.out, HE9.out, HkcE.out]
          simp [cenB, lesB, List.append_assoc]
        rw [Hb.out, hc]
        exact HA17.out⟩
      clear HE9 HE10 HE11 HE12 HE13 HE14 HE15 HE16 HE17
      go_wp2_with fail
      go_roundw
      case rel => exact Hfin.out
      case measure => simp [intOf]; omega
    · have hlI : ¬ (i : Int) < l.length := by omega
      obtain rfl : i = l.length := by omega
      rw [List.take_length] at HA hBl hCl ⊢
      obtain ⟨B, hB⟩ : ∃ B, B = locsB l := ⟨_, rfl⟩
      obtain ⟨C, hC⟩ : ∃ C, C = censB l l.length := ⟨_, rfl⟩
      rw [← hB] at HA hBl hCl hb ⊢
      rw [← hC] at HA hCl
      have HB := Lib.hid hB
      have HC := Lib.hid hC
      obtain ⟨Ab', cb', hv, hbs⟩ := own_bs HA.out.b
      simp only [Value.slice.injEq, true_and] at hv
      obtain ⟨rfl, rfl⟩ := hv
      obtain ⟨Ac, cc, rfl, hcs⟩ := own_bs HA.out.c
      have Hcs := Lib.hid hcs
      have Hby := Lib.hid (bytes_any B Ab cb wr hb hbs)
      clear hB hC hbs hcs
      go_wp2_with fail
      refine Hby.out.mono ?_
      rintro e w1 ⟨ov, rfl, hown, hbel⟩
      have HA0 : Hid (Ar w B [] ov (.slice none 0 0) w1) := Lib.hid ⟨own_base hown HA.out.below.size, World.ownsRow_nil _ _ _ _, fun g _ h => by simp [Value.ownBlock] at h, HA.out.below.trans (hbel.mono HA.out.below.size)⟩
      have Hcs1 := Lib.hid (Bs_below Hcs.out hbel)
      clear hown hbel Hby HA Hcs
      go_wp2_with (first | (at_builtin; refine append_bs_at rfl _ _ rfl w.heap.size ov B rfl HA0.out.b Ac C.length cc C rfl rfl Hcs1.out (by omega) HA0.out.below.size ?_))
      intro v0 w2 ho hg
      obtain ⟨v18, hv18⟩ : ∃ v, v = v0 := ⟨_, rfl⟩
      obtain ⟨w18, hw18⟩ : ∃ w', w' = w2 := ⟨_, rfl⟩
      subst hv18 hw18
      have HA18 := Lib.hid (HA0.out.sb ho hg)
      obtain ⟨B18, hX⟩ : ∃ X, X = B ++ C := ⟨_, rfl⟩
      have hl18 : B18.length = B.length + C.length := by rw [hX, List.length_append] <;> first | rfl | (rw [lesB_length]; rfl) | (rw [leB_length]) | (rw [toL_length])
      rw [← hX] at HA18
      have HE18 := Lib.hid hX
      clear ho hg hX HA0
      go_wp2_with (first | (at_builtin; refine append_bs_at rfl _ _ rfl w.heap.size v18 B18 rfl (HA18.out.alloc _).b (some ⟨w18.heap.size, 0, none⟩) 4 4 [80, 75, 5, 6] rfl rfl (Bs.of_block (heap_alloc_new _ _) (by decide) (by decide)) (by simp; omega) (by have := HA18.out.below.size; simp; omega) ?_))
      intro v19 w19 ho hg
      have HA19 := Lib.hid ((HA18.out.alloc _).sb ho hg)
      obtain ⟨B19, hX⟩ : ∃ X, X = B18 ++ [80, 75, 5, 6] := ⟨_, rfl⟩
      have hl19 : B19.length = B18.length + 4 := by rw [hX, List.length_append] <;> first | rfl | (rw [lesB_length]; rfl) | (rw [leB_length]) | (rw [toL_length])
      rw [← hX] at HA19
      have HE19 := Lib.hid hX
      clear ho hg hX HA18
      go_wp2_with fail
      refine (puts_ref _ w.heap.size _ 4 v19 B19 [0, 0, l.length, l.length] 4 rfl (HA19.out.alloc _).b (by omega) (by intro n hn; simp only [List.mem_cons, List.not_mem_nil, or_false] at hn; omega) (by simp) (heap_alloc_new _ _) (by have := HA19.out.below.size; simp; omega)).mono ?_
      rintro e w20 ⟨v20, rfl, ho, hg⟩
      have HA20 := Lib.hid ((HA19.out.alloc _).sb ho hg)
      obtain ⟨B20, hX⟩ : ∃ X, X = B19 ++ lesB 2 [0, 0, l.length, l.length] := ⟨_, rfl⟩
      have hl20 : B20.length = B19.length + 8 := by rw [hX, List.length_append] <;> first | rfl | (rw [lesB_length]; rfl) | (rw [leB_length]) | (rw [toL_length])
      rw [← hX] at HA20
      have HE20 := Lib.hid hX
      clear ho hg hX HA19
      go_wp2_with fail
      refine (put_ref _ w.heap.size v20 B20 C.length 4 rfl HA20.out.b (by omega) (by omega) (by omega) HA20.out.below.size).mono ?_
      rintro e w21 ⟨v21, rfl, ho, hg⟩
      have HA21 := Lib.hid (HA20.out.sb ho hg)
      obtain ⟨B21, hX⟩ : ∃ X, X = B20 ++ leB 4 C.length := ⟨_, rfl⟩
      have hl21 : B21.length = B20.length + 4 := by rw [hX, List.length_append] <;> first | rfl | (rw [lesB_length]; rfl) | (rw [leB_length]) | (rw [toL_length])
      rw [← hX] at HA21
      have HE21 := Lib.hid hX
      clear ho hg hX HA20
      go_wp2_with fail
      refine (put_ref _ w.heap.size v21 B21 B.length 4 rfl HA21.out.b (by omega) (by omega) (by omega) HA21.out.below.size).mono ?_
      rintro e w22 ⟨v22, rfl, ho, hg⟩
      have HA22 := Lib.hid (HA21.out.sb ho hg)
      obtain ⟨B22, hX⟩ : ∃ X, X = B21 ++ leB 4 B.length := ⟨_, rfl⟩
      have hl22 : B22.length = B21.length + 4 := by rw [hX, List.length_append] <;> first | rfl | (rw [lesB_length]; rfl) | (rw [leB_length]) | (rw [toL_length])
      rw [← hX] at HA22
      have HE22 := Lib.hid hX
      clear ho hg hX HA21
      go_wp2_with fail
      refine (puts_ref _ w.heap.size _ 1 v22 B22 [0] 1 rfl (HA22.out.alloc _).b (by omega) (by intro n hn; simp only [List.mem_cons, List.not_mem_nil, or_false] at hn; omega) (by simp) (heap_alloc_new _ _) (by have := HA22.out.below.size; simp; omega)).mono ?_
      rintro e w23 ⟨v23, rfl, ho, hg⟩
      have HA23 := Lib.hid ((HA22.out.alloc _).sb ho hg)
      obtain ⟨B23, hX⟩ : ∃ X, X = B22 ++ lesB 2 [0] := ⟨_, rfl⟩
      have hl23 : B23.length = B22.length + 2 := by rw [hX, List.length_append] <;> first | rfl | (rw [lesB_length]; rfl) | (rw [leB_length]) | (rw [toL_length])
      rw [← hX] at HA23
      have HE23 := Lib.hid hX
      clear ho hg hX HA22
      have Hfin : Hid (PkPost w l (.returned v23) w23) := Lib.hid ⟨_, rfl, by
        have hp : packB l = B23 := by
          rw [HE23.out, HE22.out, HE21.out, HE20.out, HE19.out, HE18.out, packB, ← HB.out, ← HC.out]
          simp [endB, lesB, List.append_assoc]
        rw [hp]
        exact HA23.out.b, HA23.out.below⟩
      go_wp2_with fail
      go_ret
      exact Hfin.out
end Go.Proofs.YtdmladdpbdcpjaaDoor
