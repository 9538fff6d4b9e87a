/-
  An archive at the limit: the law ArkLong. (Printed by wip/abexp.py.)
-/
import Derived.Test.YtfbdjfljgcfikaaDoorArkRt
namespace Go.Proofs.YtfbdjfljgcfikaaDoor
open Go.RowKit

set_option linter.unusedSimpArgs false

attribute [local go_sem] lt1 lt2 lt3 lt4 lt5 lt6

theorem pack_one_len (p : Fl) : (packB [p]).length = 98 + 2 * p.1.size + p.2.length := by
  have e1 : (locsB [p]).length = 30 + p.1.size + p.2.length := by simp [locsB, locB_len]
  have e2 : (censB [p] 1).length = 46 + p.1.size := by rw [censB_succ, List.length_append, cenB_len]; simp [censB]
  unfold packB
  rw [List.length_append, List.length_append, e1, List.length_singleton, e2]
  have e3 : (endB 1 (46 + p.1.size) (30 + p.1.size + p.2.length)).length = 22 := by simp [endB, lesB_length]
  rw [e3]
  omega
def LongPost (w : World) (e : Ending) (w' : World) : Prop := e = .returned (.bool true) ∧ Below w.heap.size w w'
set_option maxHeartbeats 4000000 in
set_option maxRecDepth 100000 in
theorem long_any (w : World) (n : Int) (s : ByteArray) (hm : MaxL w) :
    Calls Tryd.prog 6 #[.int .i64 n, .string s] w (LongPost w) := by
  have Hm := Lib.hid hm
  clear hm
  by_cases h3 : s.size = 3
  case neg =>
    have hb3 : ((s.size : Int) != 3) = true := by rw [bne_iff_ne]; omega
    clear h3
    go_enter Tryd.func6, Tryd.ntmps6
    go_wp2_with fail
    refine (first_any w Hm.out).mono ?_
    rintro e w1 ⟨rfl, hb⟩
    have Hb := Lib.hid hb
    clear hb
    go_wp2_with fail
    go_ret
    exact ⟨rfl, Hb.out⟩
  have hb3 : ((s.size : Int) != 3) = false := by rw [bne_eq_false_iff_eq]; omega
  have H3 := Lib.hid h3
  clear h3
  have d1 : -3 < n.tmod 3 := Int.lt_tmod_of_pos n (by decide)
  have d2 : n.tmod 3 < 3 := Int.tmod_lt_of_pos n (by decide)
  have w1' : wrap64 (n.tmod 3 + 3) = n.tmod 3 + 3 := IntWalk.wrap64_in _ (by omega)
  have w2' : (n.tmod 3 + 3).tmod 3 = (n.tmod 3 + 3) % 3 := Int.tmod_eq_emod_of_nonneg (by omega)
  obtain ⟨m, hm⟩ : ∃ m, m = (n.tmod 3 + 3) % 3 - 1 := ⟨_, rfl⟩
  have m1 : -1 ≤ m := by omega
  have m2 : m ≤ 1 := by omega
  obtain ⟨K, hK⟩ : ∃ K : Nat, (K : Int) = 1048472 + m := ⟨(1048472 + m).toNat, by omega⟩
  have w3 : wrap64 ((n.tmod 3 + 3).tmod 3 - 1) = m := by rw [w2', ← hm]; exact IntWalk.wrap64_in _ (by omega)
  have w4 : wrap64 (1048472 + m) = K := by rw [← hK]; exact IntWalk.wrap64_in _ (by omega)
  have w5 : wrap64 (1048576 + m) = 1048576 + m := IntWalk.wrap64_in _ (by omega)
  have HK := Lib.hid hK
  have kb : K ≤ 1048473 := by omega
  clear hK w2' hm d1 d2
  go_enter Tryd.func6, Tryd.ntmps6
  go_wp2_with fail
  refine (first_any w Hm.out).mono ?_
  rintro e w1 ⟨rfl, hb⟩
  have Hb := Lib.hid hb
  clear hb
  go_wp2_with fail
  have hv := valid_any w1 s (by have := H3.out; omega) (Hm.out.below Hb.out)
  unfold ValidPost at hv
  refine hv.mono ?_
  rintro e w2 ⟨rfl, hb2⟩
  have Hb2 := Lib.hid (Hb.out.trans (hb2.mono Hb.out.size))
  clear hb2 hv
  cases hval : validName (toL s) with
  | false =>
    go_wp2_with fail
    go_ret
    exact ⟨rfl, Hb2.out⟩
  | true =>
    have Hval := Lib.hid hval
    clear hval
    obtain ⟨i0, hi0, hz0, hz1, hz2⟩ := info_parts infoU8
    go_wp2_with (first | (at_make; refine wpList_make_full _ rfl (.tmp 33) (.tmp 33) 28 rfl w.heap.size 5 i0 (.int .u8 0) 1 Tryd.underlying28 hi0 hz0 hz1 _ _ _ _ K rfl rfl ?g3 ?g4 ?hby ?hml ?hba ?_))
    case g3 => exact HK.out.symm
    case g4 => exact HK.out.symm
    case hby => rw [hz2]; omega
    case hml => unfold maxLen; omega
    case hba => exact Hb2.out.size
    intro w3 hown hgrow
    have hz8 : (madeCells #[Value.int .u8 0] K).toList = u8s (List.replicate K 0) := by
      apply List.ext_getElem
      · simp [madeCells, u8s]
      · intro i h1 h2
        simp [madeCells, u8s, Value.cells, Nat.mod_one]
    rw [hz8] at hown
    obtain ⟨zs, hzs⟩ : ∃ zs, zs = List.replicate K (0 : UInt8) := ⟨_, rfl⟩
    have hzl : zs.length = K := by rw [hzs]; simp
    rw [← hzs] at hown
    have hbz : Bs w3 (some ⟨w2.heap.size, 0, none⟩) K zs := by
      have h := hown
      rw [← hzl] at h
      obtain ⟨A', c', he, hb⟩ := own_bs h
      simp only [Value.slice.injEq, true_and] at he
      obtain ⟨rfl, rfl⟩ := he
      rw [← hzl]
      exact hb
    have hb3 : Below w.heap.size w w3 := Hb2.out.grown hgrow Hb2.out.size (by simp)
    have hfl : FlAt (w3.alloc (.cells #[.string s, .slice (some ⟨w2.heap.size, 0, none⟩) K K] 46)) (some ⟨w3.heap.size, 0, none⟩) 1 [(s, zs)] := by
      have h := FlAt.one s hbz
      rw [hzl] at h
      exact h
    have Hfl := Lib.hid hfl
    have Hb3 := Lib.hid (hb3.alloc hb3.size (.cells #[.string s, .slice (some ⟨w2.heap.size, 0, none⟩) K K] 46))
    have Hzl := Lib.hid hzl
    clear hz8 hown hzs hbz hb3 hfl hgrow hzl
    have hpk := packed_any _ _ _ _ Hfl.out (Hm.out.below Hb3.out) (fun p hp => by rw [List.mem_singleton.1 hp]; show s.size ≤ _; have := H3.out; omega) (fun p hp => by rw [List.mem_singleton.1 hp]; show zs.length ≤ _; have := Hzl.out; omega) (by simp)
    rw [byName_single] at hpk
    have Hpk := Lib.hid hpk
    clear hpk
    go_wp2_with fail
    refine Hpk.out.mono ?_
    rintro e w4 ⟨v4, rfl, hrow4, hb4⟩
    have Hb4 := Lib.hid (Hb3.out.trans (hb4.mono Hb3.out.size))
    have hn0 : namesErr [] (namesOf [(s, zs)]) = 0 := by
      show (if nameErr [] (toL s) = 0 then namesErr ([] ++ [lowN (toL s)]) [] else nameErr [] (toL s)) = 0
      rw [if_pos (nameErr_zero.2 ⟨Hval.out, by simp⟩)]
      rfl
    have hlen : (packB [(s, zs)]).length = 104 + K := by
      rw [pack_one_len]
      show 98 + 2 * s.size + zs.length = _
      rw [H3.out, Hzl.out]
    have hpe : packErr [(s, zs)] [(s, zs)] = if 1048576 < 104 + K then 13 else 0 := by
      unfold packErr
      rw [if_neg (by simp), if_neg (by rw [hn0]; simp), if_neg (by simp [sumD, Hzl.out]; omega), hlen]
    have Hn0 := Lib.hid hn0
    have Hlen := Lib.hid hlen
    clear hb4 hn0 hlen
    by_cases hm1 : m = 1
    · have hpe1 : packErr [(s, zs)] [(s, zs)] = 13 := by rw [hpe, if_pos (by have := HK.out; omega)]
      have hpd : packed [(s, zs)] [(s, zs)] = [] := by unfold packed; rw [if_neg (by rw [hpe1]; decide)]
      rw [hpe1]
      rw [hpd] at hrow4
      obtain ⟨A4, c4, rfl, _⟩ := own_form hrow4
      have hmI : (0 : Int) < m := by omega
      clear hpe hpe1 hpd hrow4 hm1
      obtain ⟨M, hM⟩ : ∃ M : Nat, (1048577 : Int) = M := ⟨1048577, rfl⟩
      have HM := Lib.hid hM
      clear hM
      go_wp2_with (first | (at_make; refine wpList_make_full _ rfl (.const (.int .i64 1048577)) (.const (.int .i64 1048577)) 28 rfl w.heap.size 5 i0 (.int .u8 0) 1 Tryd.underlying28 hi0 hz0 hz1 _ _ _ _ M rfl rfl ?g3 ?g4 ?hby ?hml ?hba ?_))
      case g3 => exact HM.out
      case g4 => exact HM.out
      case hby => have := HM.out; rw [hz2]; omega
      case hml => have := HM.out; unfold maxLen; omega
      case hba => exact Hb4.out.size
      intro w5 hown hgrow
      have hz8 : (madeCells #[Value.int .u8 0] M).toList = u8s (List.replicate M 0) := by
        apply List.ext_getElem
        · simp [madeCells, u8s]
        · intro i h1 h2
          simp [madeCells, u8s, Nat.mod_one]
      rw [hz8] at hown
      obtain ⟨ys, hys⟩ : ∃ ys, ys = List.replicate M (0 : UInt8) := ⟨_, rfl⟩
      have hyl : ys.length = M := by rw [hys]; simp
      rw [← hys] at hown
      have hby : Bs w5 (some ⟨w4.heap.size, 0, none⟩) M ys := by
        have h := hown
        rw [← hyl] at h
        obtain ⟨A', c', he, hb⟩ := own_bs h
        simp only [Value.slice.injEq, true_and] at he
        obtain ⟨rfl, rfl⟩ := he
        rw [← hyl]
        exact hb
      have hb5 : Below w.heap.size w w5 := Hb4.out.grown hgrow Hb4.out.size (by simp)
      have hun := unpack_any w5 ys _ _ hby (by rw [hyl]; have := HM.out; omega) (Hm.out.below hb5)
      have hu13 : unErr ys = 13 := by unfold unErr; rw [if_pos (by rw [hyl]; have := HM.out; omega)]
      unfold UnPost at hun
      rw [hu13, hyl] at hun
      have Hun := Lib.hid hun
      have Hb5 := Lib.hid hb5
      clear hz8 hown hys hby hb5 hun hu13 hgrow hyl
      go_wp2_with fail
      refine Hun.out.mono ?_
      rintro e w6 ⟨v6, rfl, _, hb6⟩
      have Hb6 := Lib.hid (Hb5.out.trans (hb6.mono Hb5.out.size))
      clear hb6
      go_wp2_with fail
      refine (num_any _ _).mono ?_
      rintro e w7 ⟨rfl, rfl⟩
      go_wp2_with fail
      refine (num_any _ _).mono ?_
      rintro e w7 ⟨rfl, rfl⟩
      go_wp2_with fail
      go_ret
      exact ⟨rfl, Hb6.out⟩
    · have hm0 : m ≤ 0 := by omega
      have hpe1 : packErr [(s, zs)] [(s, zs)] = 0 := by rw [hpe, if_neg (by have := HK.out; omega)]
      have hpd : packed [(s, zs)] [(s, zs)] = packB [(s, zs)] := by unfold packed; rw [if_pos hpe1]
      rw [hpe1]
      rw [hpd] at hrow4
      obtain ⟨A4, c4, rfl, hbs4⟩ := own_bs hrow4
      have hmI : ¬ (0 : Int) < m := by omega
      obtain ⟨B, hB⟩ : ∃ B, B = packB [(s, zs)] := ⟨_, rfl⟩
      have hBl : (B.length : Int) = 1048576 + m := by rw [hB, Hlen.out]; have := HK.out; omega
      have hup := unpack_pack (l := [(s, zs)]) Hn0.out (by simp) (by rw [byName_single, ← hB]; omega)
      rw [byName_single, ← hB] at hup
      have hun := unpack_any w4 B A4 c4 (by rw [hB]; exact hbs4) (by omega) (Hm.out.below Hb4.out)
      unfold UnPost at hun
      rw [hup.1, hup.2] at hun
      rw [← hB]
      have Hun := Lib.hid hun
      have HBl := Lib.hid hBl
      have hbl2 : ((B.length : Int) == 1048576 + m) = true := by rw [beq_iff_eq]; exact hBl
      clear hpe hpe1 hpd hrow4 hbs4 hup hun hm1 hB hBl
      go_wp2_with fail
      refine Hun.out.mono ?_
      rintro e w5 ⟨v5, rfl, hfm, hb5⟩
      obtain ⟨A5, c5, rfl, hat⟩ := hfm.own.files
      obtain ⟨b5, o5, rfl, hx⟩ := hat.cells (by simp)
      obtain ⟨f1, A6, c6, f2, _⟩ := hx 0 (s, zs) rfl
      have Hb5 := Lib.hid (Hb4.out.trans (hb5.mono Hb4.out.size))
      rw [Nat.zero_mul, Nat.add_zero] at f1 f2
      have hc5 : 1 ≤ c5 := hat.le
      have hzz : ((zs.length : Int) == K) = true := by rw [beq_iff_eq, Hzl.out]
      have hss : (s.toList == s.toList) = true := by simp
      clear hb5 hfm hat hx
      dsimp only at f1 f2
      go_wp2_with fail
      refine (num_any _ _).mono ?_
      rintro e w6 ⟨rfl, rfl⟩
      go_wp2_with fail
      refine (num_any _ _).mono ?_
      rintro e w7 ⟨rfl, rfl⟩
      go_wp2_with fail
      go_ret
      exact ⟨rfl, Hb5.out⟩
end Go.Proofs.YtfbdjfljgcfikaaDoor
