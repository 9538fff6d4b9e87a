/-
  One form: the law ArkOneForm. (Printed by wip/abexp.py.)
-/
import Derived.Test.YtdmladdpbdcpjaaDoorArkRt
import Derived.Test.YtdmladdpbdcpjaaDoorArkFirst
import Derived.Test.YtdmladdpbdcpjaaDoorArkFiles2
namespace Go.Proofs.YtdmladdpbdcpjaaDoor
open Go.RowKit

set_option linter.unusedSimpArgs false

attribute [local go_sem] lt1 lt2 lt3 lt4 lt5 lt6

theorem sumFl_mem {l : List Fl} : ∀ p ∈ l, p.2.length + p.1.size ≤ sumFl l := by
  induction l with
  | nil => simp
  | cons q l ih =>
    intro p hp
    have e : sumFl (q :: l) = q.2.length + q.1.size + sumFl l := rfl
    rcases List.mem_cons.1 hp with rfl | hp
    · omega
    · have := ih p hp; omega
theorem sumD_perm {L l : List Fl} (hp : L.Perm l) : sumD L = sumD l := by
  unfold sumD
  have := hp.map fun p : Fl => p.2.length
  exact this.sum_nat
/-- archives do not hang on the order of the files -/
theorem packErr_perm {L l : List Fl} (hp : L.Perm l) : (packErr L (byName L) = 0 ↔ packErr l (byName l) = 0) ∧ (packErr l (byName l) = 0 → byName L = byName l ∧ namesErr [] (namesOf l) = 0 ∧ namesErr [] (namesOf L) = 0 ∧ l.length ≤ 100 ∧ (packB (byName l)).length ≤ 1048576) := by
  have key : ∀ {L l : List Fl}, L.Perm l → packErr l (byName l) = 0 → packErr L (byName L) = 0 ∧ byName L = byName l ∧ namesErr [] (namesOf l) = 0 ∧ namesErr [] (namesOf L) = 0 ∧ l.length ≤ 100 ∧ (packB (byName l)).length ≤ 1048576 := by
    intro L l hp h
    unfold packErr at h
    split at h
    · cases h
    · rename_i h1
      split at h
      · rename_i h2; exact absurd h h2
      · rename_i h2
        split at h
        · cases h
        · rename_i h3
          split at h
          · cases h
          · rename_i h4
            have hn : namesErr [] (namesOf l) = 0 := by simpa using h2
            have hn' := (names_perm hp).2 hn
            have hb := byName_of hp hn
            refine ⟨?_, hb, hn, hn', by omega, by omega⟩
            unfold packErr
            rw [hp.length_eq, if_neg h1, hn', if_neg (by simp), sumD_perm hp, if_neg h3, hb, if_neg h4]
  exact ⟨⟨fun h => (key hp.symm h).1, fun h => (key hp h).1⟩, fun h => (key hp h).2⟩
def TuRel (W : World) (l : List Fl) (tv iv : Value) (wr : World) : Prop :=
  ∃ k cs, k ≤ l.length ∧ iv = .int .i64 ((l.length : Int) - 1 - k) ∧ All2 (CFl W) cs (l.reverse.take k) ∧ wr.ownsRow W.heap.size 46 2 tv k cs.flatten ∧ Below W.heap.size W wr
theorem rev_take {l : List Fl} {k : Nat} (h : k < l.length) : l.reverse.take (k + 1) = l.reverse.take k ++ [l.getD (l.length - 1 - k) noFl] := by
  rw [List.take_succ_eq_append_getElem (by simpa using h), List.getElem_reverse]
  have : l.length - 1 - k < l.length := by omega
  simp [List.getD_eq_getElem?_getD, this]
def OnePost (w : World) (e : Ending) (w' : World) : Prop := e = .returned (.bool true) ∧ Below w.heap.size w w'
theorem set_bytes {w : World} {base g cap : Nat} {B : List UInt8} (h : w.ownsRow base 5 1 (.slice (some ⟨g, 0, none⟩) B.length cap) B.length (u8s B)) {j : Nat} (hj : j < B.length) (x : UInt8) :
    Bs (w.setCell ⟨g, j, none⟩ (.int .u8 x.toNat)) (some ⟨g, 0, none⟩) cap (B.set j x) ∧ w.frozen? ⟨g, j, none⟩ = false ∧ w.cell? ⟨g, j, none⟩ = some (.int .u8 (B.getD j 0).toNat) ∧ base ≤ g := by
  obtain ⟨A', c', he, hbs⟩ := own_bs h
  simp only [Value.slice.injEq, true_and] at he
  obtain ⟨rfl, rfl⟩ := he
  obtain ⟨_, hn | ⟨g', cap', cur, hv, hb, hh, hn, hc, hs, hx⟩⟩ := h
  · simp at hn
  · simp only [Value.slice.injEq, Option.some.injEq, Addr.mk.injEq, true_and] at hv
    obtain ⟨⟨rfl, _⟩, rfl⟩ := hv
    have hf := blk_cells hh
    have hsz : cur.size = cap := by rw [hs]; omega
    have hcu : ∀ i, i < B.length → cur[i]? = some (.int .u8 (B.getD i 0).toNat) := fun i hi => by
      have h1 : (cur.toList.take (B.length * 1))[i]? = (u8s B)[i]? := by rw [hx]
      rw [List.getElem?_take_of_lt (by omega), u8s_at hi] at h1
      simpa using h1
    refine ⟨⟨by simp [u8s], by simp, by simpa using hn, hc, fun _ => ⟨g, 0, rfl, fun i hi => ?_⟩⟩, hf.2.1 j, (hf.1 j).trans (hcu j hj), hb⟩
    have hi' : i < B.length := by simpa using hi
    have hset := heap_setCell_at hh j (.int .u8 x.toNat)
    rw [Nat.zero_add, (blk_cells hset).1 i, u8s_at (by simpa using hi')]
    by_cases e : i = j
    · subst e
      rw [Array.getElem?_setIfInBounds_self_of_lt (by omega)]
      simp [List.getD_eq_getElem?_getD, hi']
    · rw [Array.getElem?_setIfInBounds_ne (Ne.symm e), hcu i hi']
      simp [List.getD_eq_getElem?_getD, List.getElem?_set, Ne.symm e]
set_option maxHeartbeats 8000000 in
set_option maxRecDepth 100000 in
theorem one_any (w : World) (A : Option Addr) (c : Nat) (l : List Fl) (at' x : Int) (hm : MaxL w) (hf : FlAt w A c l) (hsz : ∀ p ∈ l, p.1.size ≤ maxLen) (hx : 0 ≤ x ∧ x ≤ 255) :
    Calls Tryd.prog 7 #[.slice A l.length c, .int .i64 at', .int .u8 x] w (OnePost w) := by
  have Hm := Lib.hid hm
  have Hf := Lib.hid hf
  have Hsz := Lib.hid hsz
  have hll : l.length ≤ 9223372036854775807 := by have h1 := hf.le; have h2 := hf.big; unfold maxLen at h2; omega
  clear hm hf hsz
  go_enter Tryd.func7, Tryd.ntmps7
  go_wp2_with fail
  refine (first_any w Hm.out).mono ?_
  rintro e w1 ⟨rfl, hb⟩
  have Hb := Lib.hid hb
  clear hb
  go_wp2_with fail
  refine (few_any w1 A c l 4000 (by omega) (Hf.out.below Hb.out) Hsz.out).mono ?_
  rintro e w2 ⟨rfl, rfl⟩
  by_cases hfew : sumFl l ≤ 4000
  case neg =>
    rw [decide_eq_false hfew]
    clear hfew
    go_wp2_with fail
    go_ret
    exact ⟨rfl, Hb.out⟩
  rw [decide_eq_true hfew]
  have hmem := fun p hp => Nat.le_trans (sumFl_mem (l := l) p hp) hfew
  have Hmem := Lib.hid hmem
  clear hfew hmem
  by_cases h110 : 110 < l.length
  · have hI : (110 : Int) < l.length := by omega
    go_wp2_with fail
    go_ret
    exact ⟨rfl, Hb.out⟩
  have hI : ¬ (110 : Int) < l.length := by omega
  have k0 := IntWalk.i64_in ((l.length : Int) - 1) (by omega)
  have H0 : Hid (TuRel w1 l (.slice none 0 0) (.int .i64 ((l.length : Int) - 1)) w1) := Lib.hid ⟨0, [], by omega, by simp, trivial, World.ownsRow_nil _ _ _ _, Below.refl _ _⟩
  obtain ⟨iF, hiF, hzF, hsF, hbF⟩ := info_parts infoFile
  go_wp2_with fail
  go_loopw [9, 10] (fun tv iv wr => TuRel w1 l tv iv wr) (fun _ iv _ => (intOf iv + 1).toNat)
  case atStart => exact H0.out
  case round =>
    clear H0 k0
    obtain ⟨k, cs, hk, rfl, hcs, hrow, hB⟩ := hrel
    obtain ⟨At, ct, rfl, _, _, _, _⟩ := own_form hrow
    have Hcs := Lib.hid hcs
    have Hrow := Lib.hid hrow
    have HB := Lib.hid hB
    have hsz1 := hB.size
    clear hcs hrow hB
    by_cases hlt : k < l.length
    · have hge : (0 : Int) ≤ (l.length : Int) - 1 - k := by omega
      have hge' : (1 : Int) + k ≤ l.length := by omega
      have hlt' : (l.length : Int) - 1 - k < l.length := by omega
      have ht : ((l.length : Int) - 1 - k).toNat = l.length - 1 - k := by omega
      have k1 := IntWalk.i64_in ((l.length : Int) - 1 - k - 1) (by omega)
      obtain ⟨bb, oo, Ai, ci, rfl, f1, f2, hbs⟩ := (Hf.out.below Hb.out).at_ (i := l.length - 1 - k) (by omega)
      have f1 := Cells.of_below HB.out _ _ f1
      have f2 := Cells.of_below HB.out _ _ f2
      have Htk := Lib.hid (rev_take hlt)
      have Hbs := Lib.hid hbs
      clear hbs
      generalize l.getD (l.length - 1 - k) noFl = p at *
      have hba : Below w1.heap.size w1 (wr.alloc (.cells #[.string p.1, .slice Ai p.2.length ci] 46)) := HB.out.alloc hsz1 _
      go_wp2_with (first | (at_builtin; refine wpList_append_own _ rfl (.tmp 43) (.tmp 48) 22 rfl w1.heap.size 46 iF (.agg #[.string ⟨#[]⟩, .slice none 0 0]) 2 40 Tryd.underlying22 hiF hzF hsF hbF rfl (by omega) (.slice At k ct) k cs.flatten rfl (Hrow.out.alloc _) ⟨wr.heap.size, 0, none⟩ 1 1 [.string p.1, .slice Ai p.2.length ci] rfl rfl (fun j v hv => World.news_of_block (w := wr.alloc _) (heap_alloc_new wr _) j v hv) one_file (by unfold maxLen; omega) (by omega) (by simp; omega) ?_))
      intro v2 w2 hown2 hgrow2 _
      have hb2 : Below w1.heap.size w1 w2 := hba.grown hgrow2 hba.size (fun q hq => (own_blk (Hrow.out.alloc (.cells #[.string p.1, .slice Ai p.2.length ci] 46)) q hq).1)
      have Hfin : Hid (TuRel w1 l v2 (.int .i64 ((l.length : Int) - 1 - k - 1)) w2) := Lib.hid ⟨k + 1, cs ++ [[.string p.1, .slice Ai p.2.length ci]], by omega, by congr 1; omega, by
        rw [Htk.out]
        exact Hcs.out.append ⟨Ai, ci, rfl, Hbs.out⟩, by
        rw [List.flatten_append, List.flatten_singleton]
        exact hown2, hb2⟩
      clear hown2 hgrow2 hb2 hba f1 f2
      go_wp2_with fail
      go_roundw
      case rel => exact Hfin.out
      case measure => simp [intOf]; omega
    · obtain rfl : k = l.length := by omega
      have hneg : ¬ (0 : Int) ≤ (l.length : Int) - 1 - l.length := by omega
      have hneg' : ¬ (1 : Int) + l.length ≤ l.length := by omega
      have hrl : l.reverse.take l.length = l.reverse := by rw [List.take_of_length_le (by simp)]
      rw [hrl] at Hcs
      obtain ⟨R, hR⟩ : ∃ R, R = l.reverse := ⟨_, rfl⟩
      have hRl : R.length = l.length := by rw [hR]; simp
      rw [← hR] at Hcs
      have hperm : R.Perm l := by rw [hR]; exact List.reverse_perm l
      have hfo : FlOwn wr w1.heap.size (.slice At l.length ct) R := ⟨cs, Hcs.out.mono fun _ _ h => h.keep (Cells.of_below HB.out), by rw [hRl]; exact Hrow.out⟩
      obtain ⟨At', ct', hte, hfR⟩ := hfo.files
      simp only [Value.slice.injEq] at hte
      obtain ⟨rfl, hx1, rfl⟩ := hte
      clear hx1
      have HBw := Lib.hid (Hb.out.trans (HB.out.mono Hb.out.size))
      have hpp := packErr_perm hperm
      have HfR := Lib.hid hfR
      have HRl := Lib.hid hRl
      have Hperm := Lib.hid hperm
      have Hpp := Lib.hid hpp
      have hmR : ∀ p ∈ R, p.2.length + p.1.size ≤ 4000 := fun p hp => Hmem.out p (hperm.mem_iff.1 hp)
      have HmR := Lib.hid hmR
      have hp1 := packed_any wr A c l (Hf.out.below HBw.out) (Hm.out.below HBw.out) (fun p hp => by have := Hmem.out p hp; omega) (fun p hp => by have := Hmem.out p hp; omega) (by omega)
      have HP1 := Lib.hid hp1
      clear hrl hR hRl hperm hfo hfR hpp hmR hp1 Hcs Hrow hsz1
      go_wp2_with fail
      refine HP1.out.mono ?_
      rintro e w3 ⟨v3, rfl, hrow3, hb3⟩
      have hB3 : Below w.heap.size w w3 := HBw.out.trans (hb3.mono HBw.out.size)
      have hp2 := packed_any w3 At ct R (HfR.out.below hb3) (Hm.out.below hB3) (fun p hp => by have := HmR.out p hp; omega) (fun p hp => by have := HmR.out p hp; omega) (by have := HRl.out; omega)
      rw [HRl.out] at hp2
      have HP2 := Lib.hid hp2
      have HB3 := Lib.hid hB3
      have HfR3 := Lib.hid (HfR.out.below hb3)
      obtain ⟨A3, c3, rfl, hbs3⟩ := own_bs hrow3
      have Hrow3 := Lib.hid hrow3
      clear hp2 hB3 hrow3 hbs3 hb3 HP1
      go_wp2_with fail
      refine HP2.out.mono ?_
      rintro e w4 ⟨v4, rfl, hrow4, hb4⟩
      obtain ⟨A4, c4, rfl, hbs4⟩ := own_bs hrow4
      have hB4 : Below w.heap.size w w4 := HB3.out.trans (hb4.mono HB3.out.size)
      have hh1 := h1_any w4 A c l (Hf.out.below hB4) (Hm.out.below hB4) (by omega) (fun p hp => by have := Hmem.out p hp; omega) (fun p hp => by have := Hmem.out p hp; omega)
      have HH1 := Lib.hid hh1
      have HB4 := Lib.hid hB4
      have HfR4 := Lib.hid (HfR3.out.below hb4)
      have Hbs4 := Lib.hid hbs4
      have hrow34 : w4.ownsRow wr.heap.size 5 1 (.slice A3 (packed l (byName l)).length c3) (packed l (byName l)).length (u8s (packed l (byName l))) := own_keep Hrow3.out fun k cur h => (hb4.block k (lt_of_heap h)).trans h
      have Hrow34 := Lib.hid hrow34
      clear hh1 hB4 hrow4 hbs4 hb4 HP2 hrow34 Hrow3 HfR3
      go_wp2_with fail
      refine HH1.out.mono ?_
      rintro e w5 ⟨rfl, hb5⟩
      obtain ⟨S1, hS1⟩ : ∃ S : ByteArray, S = ⟨(if namesErr [] (namesOf l) = 0 then sumOf (byName l) else []).toArray⟩ := ⟨_, rfl⟩
      rw [← hS1]
      obtain ⟨q1, hq1⟩ : ∃ q, q = namesErr [] (namesOf l) := ⟨_, rfl⟩
      rw [← hq1]
      have HS1 := Lib.hid hS1
      clear hS1 hq1
      have hB5 : Below w.heap.size w w5 := HB4.out.trans (hb5.mono HB4.out.size)
      have hh2 := h1_any w5 At ct R (HfR4.out.below hb5) (Hm.out.below hB5) (by have := HRl.out; omega) (fun p hp => by have := HmR.out p hp; omega) (fun p hp => by have := HmR.out p hp; omega)
      rw [HRl.out] at hh2
      have HH2 := Lib.hid hh2
      have HB5 := Lib.hid hB5
      have Hbs5 := Lib.hid (Hbs4.out.keep (Cells.of_below hb5))
      have hrow35 : w5.ownsRow wr.heap.size 5 1 (.slice A3 (packed l (byName l)).length c3) (packed l (byName l)).length (u8s (packed l (byName l))) := own_keep Hrow34.out fun k cur h => (hb5.block k (lt_of_heap h)).trans h
      have Hrow35 := Lib.hid hrow35
      clear hh2 hB5 hb5 HH1 hrow35 Hrow34 Hbs4
      go_wp2_with fail
      refine HH2.out.mono ?_
      rintro e w6 ⟨rfl, hb6⟩
      obtain ⟨S2, hS2⟩ : ∃ S : ByteArray, S = ⟨(if namesErr [] (namesOf R) = 0 then sumOf (byName R) else []).toArray⟩ := ⟨_, rfl⟩
      rw [← hS2]
      obtain ⟨q2, hq2⟩ : ∃ q, q = namesErr [] (namesOf R) := ⟨_, rfl⟩
      rw [← hq2]
      have HS2 := Lib.hid hS2
      clear hS2 hq2
      have HB6 := Lib.hid (HB5.out.trans (hb6.mono HB5.out.size))
      have Hbs6 := Lib.hid (Hbs5.out.keep (Cells.of_below hb6))
      have hrow36 : w6.ownsRow wr.heap.size 5 1 (.slice A3 (packed l (byName l)).length c3) (packed l (byName l)).length (u8s (packed l (byName l))) := own_keep Hrow35.out fun k cur h => (hb6.block k (lt_of_heap h)).trans h
      have Hrow36 := Lib.hid hrow36
      clear hb6 HH2 hrow36 Hrow35 Hbs5
      obtain ⟨n1, hn1⟩ : ∃ n, n = packErr l (byName l) := ⟨_, rfl⟩
      obtain ⟨n2, hn2⟩ : ∃ n, n = packErr R (byName R) := ⟨_, rfl⟩
      rw [← hn1, ← hn2]
      by_cases hz : n1 = 0
      case neg =>
        have hz2 : n2 ≠ 0 := fun h => hz (by rw [hn1]; exact Hpp.out.1.1 (by rw [← hn2]; exact h))
        have hpk1 : packed l (byName l) = [] := by unfold packed; rw [if_neg (by rw [← hn1]; exact hz)]
        have hpk2 : packed R (byName R) = [] := by unfold packed; rw [if_neg (by rw [← hn2]; exact hz2)]
        rw [hpk1, hpk2]
        have e1 : ((n1 : Int) == 0) = false := by rw [beq_eq_false_iff_ne]; omega
        have e2 : ((n2 : Int) == 0) = false := by rw [beq_eq_false_iff_ne]; omega
        have e3 : ((n1 : Int) != 0) = true := by rw [bne_iff_ne]; omega
        clear hz hz2 hpk1 hpk2 hn1 hn2
        go_wp2_with fail
        refine (num_any _ _).mono ?_
        rintro e w7 ⟨rfl, rfl⟩
        go_wp2_with fail
        refine (num_any _ _).mono ?_
        rintro e w7 ⟨rfl, rfl⟩
        go_wp2_with fail
        refine (num_any _ _).mono ?_
        rintro e w7 ⟨rfl, rfl⟩
        go_wp2_with fail
        go_ret
        exact ⟨rfl, HB6.out⟩
      case pos =>
        subst hz
        have hz2 : n2 = 0 := by rw [hn2]; exact Hpp.out.1.2 hn1.symm
        subst hz2
        obtain ⟨hLR, hnl, hnR, hl100, hlen⟩ := Hpp.out.2 hn1.symm
        have hpk1 : packed l (byName l) = packB (byName l) := by unfold packed; rw [if_pos hn1.symm]
        have hpk2 : packed R (byName R) = packB (byName l) := by unfold packed; rw [if_pos hn2.symm, hLR]
        rw [hpk1, hpk2]
        obtain rfl : S2 = S1 := by rw [HS1.out, HS2.out, if_pos hnl, if_pos hnR, hLR]
        rw [hpk1] at Hrow36
        rw [hpk2] at Hbs6
        obtain ⟨B, hB⟩ : ∃ B, B = packB (byName l) := ⟨_, rfl⟩
        rw [← hB] at Hrow36 Hbs6 hlen ⊢
        have hB22 : 22 ≤ B.length := by
          rw [hB]
          unfold packB endB
          simp [lesB_length]
          omega
        obtain ⟨A3', c3', h3e, hbs3⟩ := own_bs Hrow36.out
        simp only [Value.slice.injEq, true_and] at h3e
        obtain ⟨rfl, rfl⟩ := h3e
        have Hbs3 := Lib.hid hbs3
        have HBe := Lib.hid hB
        have Hnl := Lib.hid hnl
        have hss : (S2.toList != S2.toList) = false := by simp
        have hss2 : (S2.toList == S2.toList) = true := by simp
        clear hn1 hn2 hLR hnl hnR hpk1 hpk2 hbs3 hB
        go_wp2_with fail
        refine (num_any _ _).mono ?_
        rintro e w7 ⟨rfl, rfl⟩
        go_wp2_with fail
        refine (num_any _ _).mono ?_
        rintro e w7 ⟨rfl, rfl⟩
        go_wp2_with fail
        refine (num_any _ _).mono ?_
        rintro e w7 ⟨rfl, rfl⟩
        go_wp2_with fail
        have hsb := same_any B B A3 A4 c3 c4 w6 Hbs3.out Hbs6.out
        rw [beq_self_eq_true] at hsb
        refine hsb.mono ?_
        rintro e w7 ⟨rfl, nd, rfl⟩
        clear hsb
        have hBp : (0 : Int) < B.length := by omega
        have d1 : -(B.length : Int) < at'.tmod B.length := Int.lt_tmod_of_pos at' hBp
        have d2 : at'.tmod B.length < B.length := Int.tmod_lt_of_pos at' hBp
        have k5 : wrap64 (at'.tmod (B.length : Int) + B.length) = at'.tmod (B.length : Int) + B.length := IntWalk.wrap64_in _ (by omega)
        obtain ⟨j, hj⟩ : ∃ j : Nat, (at'.tmod (B.length : Int) + B.length).tmod (B.length : Int) = j := ⟨((at'.tmod (B.length : Int) + B.length).tmod (B.length : Int)).toNat, by rw [Int.tmod_eq_emod_of_nonneg (by omega)]; have := Int.emod_nonneg (at'.tmod (B.length : Int) + B.length) (show (B.length : Int) ≠ 0 by omega); omega⟩
        have hjl : j < B.length := by
          have h := hj
          rw [Int.tmod_eq_emod_of_nonneg (by omega)] at h
          have := Int.emod_lt_of_pos (at'.tmod (B.length : Int) + B.length) hBp
          omega
        have hjI : (j : Int) < B.length := by omega
        obtain ⟨g3, cap3, hv3⟩ := own_atv Hrow36.out (by omega)
        simp only [Value.slice.injEq] at hv3
        obtain ⟨rfl, hx1, rfl⟩ := hv3
        clear hx1 d1 d2
        obtain ⟨xb, hxb⟩ : ∃ xb : UInt8, (xb.toNat : Int) = x := ⟨UInt8.ofNat x.toNat, by rw [UInt8.toNat_ofNat']; omega⟩
        subst hxb
        obtain ⟨hset, hfz, hce, hbase⟩ := set_bytes Hrow36.out hjl xb
        have hnB : (B.length : Int) ≠ 0 := by omega
        have Hset := Lib.hid hset
        obtain ⟨bv, hbv⟩ : ∃ bv, bv = B.getD j 0 := ⟨_, rfl⟩
        rw [← hbv] at hce
        have Hbv := Lib.hid hbv
        clear hset hbv
        by_cases hxe : (bv.toNat : Int) = xb.toNat
        · have hbe : ((bv.toNat : Int) == (xb.toNat : Int)) = true := by rw [beq_iff_eq]; exact hxe
          clear hxe
          go_wp2_with fail
          go_ret
          exact ⟨rfl, ⟨HB6.out.os, HB6.out.tape, HB6.out.output, HB6.out.size, HB6.out.block⟩⟩
        · have hbe : ((bv.toNat : Int) == (xb.toNat : Int)) = false := by rw [beq_eq_false_iff_ne]; exact hxe
          have Hxe := Lib.hid hxe
          clear hxe
          go_wp2_with fail
          have hbz : Below w.heap.size w ((w6.drewN nd).setCell ⟨g3, j, none⟩ (.int .u8 xb.toNat)) := by
            have h0 : Below w.heap.size w (w6.drewN nd) := ⟨HB6.out.os, HB6.out.tape, HB6.out.output, HB6.out.size, HB6.out.block⟩
            exact h0.trans ((Fr.setCell [g3] (w6.drewN nd) ⟨g3, j, none⟩ (.int .u8 xb.toNat) (by simp)).below h0.size (fun k hk => by rw [List.mem_singleton.1 hk]; exact Nat.le_trans HBw.out.size hbase))
          have hbsz : Bs ((w6.drewN nd).setCell ⟨g3, j, none⟩ (.int .u8 xb.toNat)) (some ⟨g3, 0, none⟩) c3 (B.set j xb) := Hset.out.keep fun _ _ h => h
          have hun := unpack_any _ (B.set j xb) _ _ hbsz (by rw [List.length_set]; omega) (Hm.out.below hbz)
          rw [List.length_set] at hun
          have Hun := Lib.hid hun
          have Hbz := Lib.hid hbz
          clear hbz hbsz hun hce hfz
          refine Hun.out.mono ?_
          rintro e w7 ⟨v7, rfl, hfm, hb7⟩
          have HB7 := Lib.hid (Hbz.out.trans (hb7.mono Hbz.out.size))
          obtain ⟨A7, c7, rfl, hf7⟩ := hfm.own.files
          have Hf7 := Lib.hid hf7
          obtain ⟨n7, hn7⟩ : ∃ n, n = unErr (B.set j xb) := ⟨_, rfl⟩
          rw [← hn7]
          have Hn7 := Lib.hid hn7
          clear hb7 hfm hf7 hn7 Hun
          by_cases hz7 : n7 = 0
          case neg =>
            have e7 : ((n7 : Int) != 0) = true := by rw [bne_iff_ne]; omega
            clear hz7
            go_wp2_with fail
            refine (num_any _ _).mono ?_
            rintro e w8 ⟨rfl, rfl⟩
            go_wp2_with fail
            go_ret
            exact ⟨rfl, HB7.out⟩
          case pos =>
            subst hz7
            have hne : unFiles (B.set j xb) ≠ byName l := fun h => by
              obtain ⟨_, h2, _⟩ := pack_unpack Hn7.out.symm
              rw [h, byName_twice Hnl.out, ← HBe.out] at h2
              have h3 : B.getD j 0 = (B.set j xb).getD j 0 := by rw [← h2]
              rw [show (B.set j xb).getD j 0 = xb by simp [List.getD_eq_getElem?_getD, hjl], ← Hbv.out] at h3
              exact Hxe.out (by rw [h3])
            obtain ⟨Y, hY⟩ : ∃ Y, Y = unFiles (B.set j xb) := ⟨_, rfl⟩
            rw [← hY] at hne Hf7 ⊢
            have Hne := Lib.hid hne
            clear hY hne
            go_wp2_with fail
            refine (num_any _ _).mono ?_
            rintro e w8 ⟨rfl, rfl⟩
            go_wp2_with fail
            refine (byname_ref w7 A c l (Hf.out.below HB7.out) (by omega)).mono ?_
            rintro e w9 ⟨v9, rfl, ho9, hb9⟩
            obtain ⟨A9, c9, rfl, hf9⟩ := ho9.files
            have HB9 := Lib.hid (HB7.out.trans (hb9.mono HB7.out.size))
            have hsm := samef_any Y (byName l) A7 A9 c7 c9 w9 (Hf7.out.below hb9) hf9
            rw [decide_eq_false Hne.out] at hsm
            have Hsm := Lib.hid hsm
            clear ho9 hb9 hf9 hsm
            go_wp2_with fail
            refine Hsm.out.mono ?_
            rintro e w10 ⟨rfl, nd2, rfl⟩
            go_wp2_with fail
            go_ret
            exact ⟨rfl, ⟨HB9.out.os, HB9.out.tape, HB9.out.output, HB9.out.size, HB9.out.block⟩⟩
end Go.Proofs.YtdmladdpbdcpjaaDoor
