/-
  text.Words: a line's words.
-/
import Derived.Test.YtlljjddgbilipaaGreatDoorTxQuo
namespace Go.Proofs.YtlljjddgbilipaaGreatDoor
open Go.RowKit

set_option linter.unusedSimpArgs false

attribute [local go_sem] lt1 lt2 lt3 lt4 lt5 lt6

def wordsErr (s : List UInt8) : Int := if 65536 < s.length then 13 else match wordsL s with
  | none => 15
  | some _ => 0
def wordsOf (s : List UInt8) : List (List UInt8) := if 65536 < s.length then [] else match wordsL s with
  | none => []
  | some l => l
theorem words_long {s : List UInt8} (h : 65536 < s.length) : wordsErr s = 13 ∧ wordsOf s = [] := by unfold wordsErr wordsOf; rw [if_pos h, if_pos h]; exact ⟨rfl, rfl⟩
theorem words_bad {s : List UInt8} (h : ¬ 65536 < s.length) (h1 : wordsL s = none) : wordsErr s = 15 ∧ wordsOf s = [] := by unfold wordsErr wordsOf; rw [if_neg h, if_neg h, h1]; exact ⟨rfl, rfl⟩
theorem words_good {s : List UInt8} {l : List (List UInt8)} (h : ¬ 65536 < s.length) (h1 : wordsL s = some l) : wordsErr s = 0 ∧ wordsOf s = l := by unfold wordsErr wordsOf; rw [if_neg h, if_neg h, h1]; exact ⟨rfl, rfl⟩
/-- what both Words hand back -/
def WdPost (w : World) (s : ByteArray) (e : Ending) (w' : World) : Prop := ∃ (D : List ByteArray) (v : Value), e = .returned (.tuple #[v, .int .i64 (wordsErr (toL s))]) ∧ w'.ownsRow w.heap.size 9 1 v D.length (txs D) ∧ Below w.heap.size w w' ∧ D.map toL = wordsOf (toL s)
theorem wd_none {w : World} {s : ByteArray} {n : Int} (h : wordsErr (toL s) = n ∧ wordsOf (toL s) = []) {w' : World} (hB : Below w.heap.size w w') : WdPost w s (.returned (.tuple #[.slice none 0 0, .int .i64 n])) w' :=
  ⟨[], _, by rw [h.1], World.ownsRow_nil _ _ _ _, hB, by rw [h.2]; rfl⟩
theorem trimLeft_eq (s : List UInt8) : Lib.trimLeftB s 32 = trimB s := by
  induction s with
  | nil => rfl
  | cons c r ih =>
    unfold trimB at ih ⊢
    by_cases h : c = 32
    · rw [List.dropWhile_cons_of_pos (by simpa using h), ← ih]
      subst h
      rfl
    · rw [List.dropWhile_cons_of_neg (by simpa using h)]
      unfold Lib.trimLeftB
      simp [h]
theorem trim_call (s : ByteArray) (w : World) : Calls Tryz.prog 29 #[.string s, .string ⟨#[32]⟩] w fun e w' => e = .returned (.string (mkS (trimB (toL s)))) ∧ w = w' := by
  refine (Tryz.strings_TrimLeft_one s 32 (by decide) w).mono fun e w' ⟨he, hw⟩ => ⟨?_, hw.symm⟩
  rw [he]
  show Ending.returned (.string ⟨(Lib.trimLeftB (toL s) 32).toArray⟩) = _
  rw [trimLeft_eq]
  rfl
theorem txs_push {w : World} {base : Nat} {v : Value} {D : List ByteArray} {x : ByteArray} (h : w.ownsRow base 9 1 v (D.length + 1) (txs D ++ [.string x])) : w.ownsRow base 9 1 v (D ++ [x]).length (txs (D ++ [x])) := by
  rw [show (D ++ [x]).length = D.length + 1 by simp, show txs (D ++ [x]) = txs D ++ [.string x] by simp [txs]]
  exact h
def WRel (w : World) (s : ByteArray) (ov rv : Value) (wr : World) : Prop := ∃ (D : List ByteArray) (r : ByteArray), rv = .string r ∧ wr.ownsRow w.heap.size 9 1 ov D.length (txs D) ∧ Below w.heap.size w wr ∧ r.size ≤ s.size ∧ D.length + r.size ≤ s.size ∧ trimB (toL r) = toL r ∧
  wordsL (toL s) = (wordsL (toL r)).map (fun l => D.map toL ++ l)
def sizeS : Value → Nat
  | .string s => s.size
  | _ => 0
theorem mkS_size (l : List UInt8) : (mkS l).size = l.length := by rw [← toL_len, toL_mkS]
theorem words_step {s r : ByteArray} {D : List ByteArray} {p : List UInt8 × List UInt8} (hq : wordsL (toL s) = (wordsL (toL r)).map (fun l => D.map toL ++ l)) (ht : trimB (toL r) = toL r) (hn : toL r ≠ []) (hp : rawW (toL r) = some p) (he : endW p.2) {W Y : ByteArray} (hW : toL W = p.1) (hY : toL Y = p.2) :
    wordsL (toL s) = (wordsL (toL (mkS (trimB (toL Y))))).map (fun l => (D ++ [W]).map toL ++ l) := by
  rw [hq, wordsL_eq (toL r), ht, if_neg hn, wordL_of hp he, toL_mkS, wordsL_trim, hY]
  simp only
  cases wordsL p.2 <;> simp [hW]
theorem words_no {s r : ByteArray} {D : List ByteArray} (hq : wordsL (toL s) = (wordsL (toL r)).map (fun l => D.map toL ++ l)) (ht : trimB (toL r) = toL r) (hn : toL r ≠ []) (hw : wordL (toL r) = none) : wordsL (toL s) = none := by
  rw [hq, wordsL_eq (toL r), ht, if_neg hn, hw]
  rfl
theorem wordL_raw {r : List UInt8} (h : rawW r = none) : wordL r = none := by unfold wordL; rw [h]
theorem wordL_end {r : List UInt8} {p : List UInt8 × List UInt8} (h : rawW r = some p) (he : ¬ endW p.2) : wordL r = none := by unfold wordL; rw [h]; exact if_neg he
/-- what is done behind a word -/
theorem end_cases (l : List UInt8) : l = [] ∨ (∃ t, l = 32 :: t) ∨ ∃ c t, l = c :: t ∧ c ≠ 32 := by
  cases l with
  | nil => exact .inl rfl
  | cons c t =>
    by_cases h : c = 32
    · exact .inr (.inl ⟨t, by rw [h]⟩)
    · exact .inr (.inr ⟨c, t, rfl, h⟩)
set_option maxRecDepth 100000 in
set_option maxHeartbeats 4000000 in
theorem words_any (w : World) (s : ByteArray) (hl : s.size ≤ 1048576) :
    Calls Tryz.prog 13 #[.string s] w (WdPost w s) := by
  obtain ⟨i0, hi0, hz0, hz1, hz2⟩ := info_parts infoStr1
  by_cases hlong : 65536 < s.size
  · have hI : (65536 : Int) < s.size := by omega
    go_enter Tryz.func13, Tryz.ntmps13
    go_wp2_with fail
    go_ret2
    exact wd_none (words_long (by rw [toL_len]; exact hlong)) (Below.refl _ _)
  have hI : ¬ (65536 : Int) < s.size := by omega
  have Hl : Hid (¬ 65536 < (toL s).length) := Lib.hid (by rw [toL_len]; exact hlong)
  go_enter Tryz.func13, Tryz.ntmps13
  go_wp2_with fail
  refine (trim_call s _).mono ?_
  rintro e w1 ⟨rfl, rfl⟩
  have Hat : Hid (WRel w s (.slice none 0 0) (.string (mkS (trimB (toL s)))) w) := Lib.hid ⟨[], _, rfl, World.ownsRow_nil _ _ _ _, Below.refl _ _, by rw [mkS_size, ← toL_len]; exact trimB_le _, by rw [mkS_size, ← toL_len]; simpa using trimB_le _, by rw [toL_mkS, trimB_idem], by rw [toL_mkS, wordsL_trim]; simp⟩
  go_wp2_with fail
  go_loopw [4, 5] (fun ov rv wr => WRel w s ov rv wr) (fun _ rv _ => sizeS rv)
  case atStart => exact Hat.out
  case round =>
    obtain ⟨D, r, rfl, hown, hB, hrs, hDr, htr, hq⟩ := hrel
    have Hown := Lib.hid hown
    have HB := Lib.hid hB
    have Hq := Lib.hid hq
    have Htr := Lib.hid htr
    have hsz := hB.size
    obtain ⟨Av, cv, rfl, _, _, _, _⟩ := own_form hown
    clear hown hB hq htr Hat
    by_cases hr0 : toL r = []
    · have e0 : (r.toList == []) = true := by rw [toList_toL, hr0]; rfl
      have e1 : (r.toList != []) = false := by rw [toList_toL, hr0]; rfl
      have Hend : Hid (wordsErr (toL s) = 0 ∧ wordsOf (toL s) = D.map toL) := Lib.hid (words_good Hl.out (by rw [Hq.out, hr0, wordsL_nil]; simp))
      clear hr0
      go_wp2_with fail
      go_ret2
      exact ⟨D, _, by rw [Hend.out.1]; rfl, Hown.out, HB.out, Hend.out.2.symm⟩
    obtain ⟨c, t, hct⟩ : ∃ c t, toL r = c :: t := by cases h : toL r with | nil => exact absurd h hr0 | cons c t => exact ⟨c, t, rfl⟩
    have e0 : (r.toList == []) = false := by rw [toList_toL, hct]; rfl
    have e1 : (r.toList != []) = true := by rw [toList_toL, hct]; rfl
    have hrz : 0 < r.size := by rw [← toL_len, hct]; simp
    have hb := str_byte hrz
    rw [hct] at hb
    simp only [List.getD_cons_zero] at hb
    have hrzI : (0 : Int) < r.size := by omega
    have h1I : (1 : Int) ≤ r.size := by omega
    have Hct := Lib.hid hct
    have Hne := Lib.hid hr0
    have hsp := spanL_le (toL r)
    rw [toL_len] at hsp
    have hspI : (spanL (toL r) : Int) ≤ r.size := by omega
    clear hct hr0
    by_cases h34 : c = 34
    · have hraw : rawW (toL r) = quotedK 0 t := by rw [Hct.out, rawW_cons, if_pos h34]
      have htl : toL (r.extract 1 r.size) = t := by rw [toL_rest, Hct.out]; rfl
      have hts : (r.extract 1 r.size).size ≤ 1048576 := by rw [← toL_len, htl]; have := congrArg List.length Hct.out; rw [toL_len] at this; simp at this; omega
      subst h34
      cases hqk : quotedK 0 t with
      | none =>
        have hV : quoV (r.extract 1 r.size) = .tuple #[.string ⟨#[]⟩, .string ⟨#[]⟩, .bool false] := quo_none (by rw [htl]; exact hqk)
        have Hbad := Lib.hid (words_bad Hl.out (words_no Hq.out Htr.out Hne.out (wordL_raw (hraw.trans hqk))))
        clear hqk hraw htl
        go_wp2_with fail
        refine (span_any _ r (by omega)).mono ?_
        rintro e w1 ⟨rfl, rfl⟩
        go_wp2_with fail
        refine (quoted_any _ (r.extract 1 r.size) hts).mono ?_
        rintro e w2 ⟨rfl, hB2⟩
        have HB2 := Lib.hid hB2
        rw [hV]
        clear hV hB2
        go_wp2_with fail
        go_ret2
        exact wd_none Hbad.out (HB.out.trans (HB2.out.mono hsz))
      | some p =>
        have hV : quoV (r.extract 1 r.size) = .tuple #[.string (mkS p.1), .string (mkS p.2), .bool true] := quo_some (by rw [htl]; exact hqk)
        have Hraw := Lib.hid (hraw.trans hqk)
        have hW : toL (mkS p.1) = p.1 := rfl
        have hY : toL (mkS p.2) = p.2 := rfl
        clear hqk hraw htl
        go_wp2_with fail
        refine (span_any _ r (by omega)).mono ?_
        rintro e w1 ⟨rfl, rfl⟩
        go_wp2_with fail
        refine (quoted_any _ (r.extract 1 r.size) hts).mono ?_
        rintro e w2 ⟨rfl, hB2⟩
        have Hown2 : Hid (w2.ownsRow w.heap.size 9 1 (.slice Av D.length cv) D.length (txs D)) := Lib.hid (own_keep Hown.out fun g cs hg => (hB2.block g (lt_of_heap hg)).trans hg)
        have HB3 := Lib.hid (HB.out.trans (hB2.mono hsz))
        have hsz2 : w.heap.size ≤ w2.heap.size := Nat.le_trans hsz hB2.size
        rw [hV]
        clear hV hB2
        obtain ⟨W, hWe⟩ : ∃ W, W = mkS p.1 := ⟨_, rfl⟩
        obtain ⟨Y, hYe⟩ : ∃ Y, Y = mkS p.2 := ⟨_, rfl⟩
        rw [← hWe] at hW ⊢
        rw [← hYe] at hY ⊢
        clear hWe hYe
        have Hty : Hid ((trimB (toL Y)).length ≤ Y.size) := Lib.hid (by rw [← toL_len]; exact trimB_le _)
        have hYr : Y.size + 1 ≤ r.size := by have h := rawW_len Hraw.out; rw [← hY, toL_len, toL_len] at h; exact h
        rcases end_cases p.2 with hn | ⟨t2, h32⟩ | ⟨d, t2, hd, hd32⟩
        · have ey : (Y.toList == []) = true := by rw [toList_toL, hY, hn]; rfl
          have ey' : (Y.toList != []) = false := by rw [toList_toL, hY, hn]; rfl
          have Hstep : Hid (wordsL (toL s) = (wordsL (toL (mkS (trimB (toL Y))))).map (fun l => (D ++ [W]).map toL ++ l)) := Lib.hid (words_step Hq.out Htr.out Hne.out Hraw.out (.inl hn) hW hY)
          clear hn hW hY
          go_wp2_with (first | (at_builtin; refine wpList_append_own _ rfl _ _ 25 rfl w.heap.size 9 i0 (.string ByteArray.empty) 1 16 Tryz.underlying25 hi0 hz0 hz1 hz2 rfl (by omega) (.slice Av D.length cv) D.length (txs D) rfl (Hown2.out.alloc _) ⟨w2.heap.size, 0, none⟩ 1 1 [.string W] rfl rfl (fun j v hv => World.news_of_block (w := w2.alloc _) (heap_alloc_new w2 _) j v hv) (txs_one [W]) (by unfold maxLen; omega) (by omega) (by simp; omega) ?_))
          intro v1 wp hown1 hgrow1 _
          have Hfin : Hid (WRel w s v1 (.string (mkS (trimB (toL Y)))) wp) := Lib.hid ⟨D ++ [W], _, rfl, txs_push hown1, (HB3.out.alloc hsz2 _).grown hgrow1 (by simp; omega) (fun k hk => (own_blk Hown2.out k hk).1), by rw [mkS_size]; exact Nat.le_trans Hty.out (by omega), by rw [mkS_size]; have := Hty.out; simp; omega, by rw [toL_mkS, trimB_idem], Hstep.out⟩
          obtain ⟨Av1, cv1, rfl, _, _, _, _⟩ := own_form hown1
          clear hown1 hgrow1
          go_wp2_with fail
          refine (trim_call Y _).mono ?_
          rintro e w9 ⟨rfl, rfl⟩
          go_wp2_with fail
          exact ⟨Hfin.out, by unfold sizeS; simp only []; rw [mkS_size]; exact Nat.lt_of_le_of_lt Hty.out (by omega)⟩
        · have ey : (Y.toList == []) = false := by rw [toList_toL, hY, h32]; rfl
          have ey' : (Y.toList != []) = true := by rw [toList_toL, hY, h32]; rfl
          have hyz : 0 < Y.size := by rw [← toL_len, hY, h32]; simp
          have hb0 := str_byte hyz
          rw [hY, h32] at hb0
          simp only [List.getD_cons_zero] at hb0
          have hyzI : (0 : Int) < Y.size := by omega
          have Hstep : Hid (wordsL (toL s) = (wordsL (toL (mkS (trimB (toL Y))))).map (fun l => (D ++ [W]).map toL ++ l)) := Lib.hid (words_step Hq.out Htr.out Hne.out Hraw.out (.inr (by rw [h32]; rfl)) hW hY)
          clear h32 hW hY
          go_wp2_with (first | (at_builtin; refine wpList_append_own _ rfl _ _ 25 rfl w.heap.size 9 i0 (.string ByteArray.empty) 1 16 Tryz.underlying25 hi0 hz0 hz1 hz2 rfl (by omega) (.slice Av D.length cv) D.length (txs D) rfl (Hown2.out.alloc _) ⟨w2.heap.size, 0, none⟩ 1 1 [.string W] rfl rfl (fun j v hv => World.news_of_block (w := w2.alloc _) (heap_alloc_new w2 _) j v hv) (txs_one [W]) (by unfold maxLen; omega) (by omega) (by simp; omega) ?_))
          intro v1 wp hown1 hgrow1 _
          have Hfin : Hid (WRel w s v1 (.string (mkS (trimB (toL Y)))) wp) := Lib.hid ⟨D ++ [W], _, rfl, txs_push hown1, (HB3.out.alloc hsz2 _).grown hgrow1 (by simp; omega) (fun k hk => (own_blk Hown2.out k hk).1), by rw [mkS_size]; exact Nat.le_trans Hty.out (by omega), by rw [mkS_size]; have := Hty.out; simp; omega, by rw [toL_mkS, trimB_idem], Hstep.out⟩
          obtain ⟨Av1, cv1, rfl, _, _, _, _⟩ := own_form hown1
          clear hown1 hgrow1
          go_wp2_with fail
          refine (trim_call Y _).mono ?_
          rintro e w9 ⟨rfl, rfl⟩
          go_wp2_with fail
          exact ⟨Hfin.out, by unfold sizeS; simp only []; rw [mkS_size]; exact Nat.lt_of_le_of_lt Hty.out (by omega)⟩
        · have ey : (Y.toList == []) = false := by rw [toList_toL, hY, hd]; rfl
          have ey' : (Y.toList != []) = true := by rw [toList_toL, hY, hd]; rfl
          have hyz : 0 < Y.size := by rw [← toL_len, hY, hd]; simp
          have hb0 := str_byte hyz
          rw [hY, hd] at hb0
          simp only [List.getD_cons_zero] at hb0
          have hyzI : (0 : Int) < Y.size := by omega
          have n32 : ((d.toNat : Int) == 32) = false := by rw [beq_eq_false_iff_ne]; intro h; exact hd32 (UInt8.toNat_inj.1 (by show d.toNat = 32; omega))
          have n32' : ((d.toNat : Int) != 32) = true := by unfold bne; rw [n32]; rfl
          have Hbad := Lib.hid (words_bad Hl.out (words_no Hq.out Htr.out Hne.out (wordL_end Hraw.out (by rw [hd]; rintro (h | h); exact absurd h (by simp); exact hd32 (by simpa using h)))))
          clear hd hd32 hW hY
          go_wp2_with fail
          go_ret2
          exact wd_none Hbad.out HB3.out
    · have n34 : ((c.toNat : Int) == 34) = false := by rw [beq_eq_false_iff_ne]; intro h; exact h34 (UInt8.toNat_inj.1 (by show c.toNat = 34; omega))
      cases hbc : bareB c with
      | false =>
        have hspz : spanL (toL r) = 0 := by rw [Hct.out]; unfold spanL; rw [List.takeWhile_cons_of_neg (by rw [hbc]; decide)]; rfl
        have Hbad := Lib.hid (words_bad Hl.out (words_no Hq.out Htr.out Hne.out (wordL_raw (by rw [Hct.out, rawW_cons, if_neg h34, hbc]; rfl))))
        have hx : toL (r.extract 0 0) = [] := by rw [toL_extract]; rfl
        have e3 : ((r.extract 0 0).toList == []) = true := by rw [toList_toL, hx]; rfl
        have e5 : (r.extract 0 0).size = 0 := by rw [← toL_len, hx]; rfl
        clear hbc h34 hx
        go_wp2_with fail
        refine (span_any _ r (by omega)).mono ?_
        rintro e w1 ⟨rfl, rfl⟩
        rw [hspz]
        go_wp2_with fail
        go_ret2
        exact wd_none Hbad.out HB.out
      | true =>
        have hsp1 : 1 ≤ spanL (toL r) := by rw [Hct.out]; unfold spanL; rw [List.takeWhile_cons_of_pos hbc]; simp
        have Hraw : Hid (rawW (toL r) = some ((toL r).takeWhile bareB, (toL r).dropWhile bareB)) := Lib.hid (by rw [Hct.out, rawW_cons, if_neg h34, hbc]; rfl)
        have hx : toL (r.extract 0 (spanL (toL r))) = (toL r).takeWhile bareB := by rw [toL_extract, Nat.sub_zero, List.drop_zero]; exact (takeWhile_take (toL r)).symm
        have hspan : Hid (∀ w, Calls Tryz.prog 30 #[.string r] w fun e w' => e = .returned (.int .i64 (spanL (toL r) : Nat)) ∧ w' = w) := Lib.hid fun w => span_any w r (by omega)
        obtain ⟨p, hp⟩ : ∃ p : List UInt8 × List UInt8, p = ((toL r).takeWhile bareB, (toL r).dropWhile bareB) := ⟨_, rfl⟩
        have hW : toL (r.extract 0 (spanL (toL r))) = p.1 := by rw [hx, hp]
        have hY : toL (r.extract (spanL (toL r)) r.size) = p.2 := by rw [toL_rest, hp, dropWhile_drop]; rfl
        have hWz : (r.extract 0 (spanL (toL r))).size = spanL (toL r) := by rw [← toL_len, hx]; rfl
        have hWne : ((r.extract 0 (spanL (toL r))).toList == []) = false := by
          rw [toList_toL, beq_eq_false_iff_ne]
          intro h
          have := congrArg List.length h
          rw [toL_len, hWz] at this
          simp at this
          omega
        rw [← hp] at Hraw
        clear hp hx hbc h34
        generalize spanL (toL r) = sp at *
        have hspr : (0 : Int) ≤ sp := by omega
        have Hty : Hid ((trimB (toL (r.extract sp r.size))).length ≤ (r.extract sp r.size).size) := Lib.hid (by rw [← toL_len]; exact trimB_le _)
        have hYr : (r.extract sp r.size).size + 1 ≤ r.size := by have h := rawW_len Hraw.out; rw [← hY, toL_len, toL_len] at h; exact h
        rcases end_cases p.2 with hn | ⟨t2, h32⟩ | ⟨d, t2, hd, hd32⟩
        · have ey : ((r.extract sp r.size).toList == []) = true := by rw [toList_toL, hY, hn]; rfl
          have ey' : ((r.extract sp r.size).toList != []) = false := by rw [toList_toL, hY, hn]; rfl
          have Hstep : Hid (wordsL (toL s) = (wordsL (toL (mkS (trimB (toL (r.extract sp r.size)))))).map (fun l => (D ++ [(r.extract 0 sp)]).map toL ++ l)) := Lib.hid (words_step Hq.out Htr.out Hne.out Hraw.out (.inl hn) hW hY)
          clear hn hW hY
          go_wp2_with fail
          refine (hspan.out _).mono ?_
          rintro e w1 ⟨rfl, rfl⟩
          go_wp2_with (first | (at_builtin; refine wpList_append_own _ rfl _ _ 25 rfl w.heap.size 9 i0 (.string ByteArray.empty) 1 16 Tryz.underlying25 hi0 hz0 hz1 hz2 rfl (by omega) (.slice Av D.length cv) D.length (txs D) rfl (Hown.out.alloc _) ⟨w1.heap.size, 0, none⟩ 1 1 [.string (r.extract 0 sp)] rfl rfl (fun j v hv => World.news_of_block (w := w1.alloc _) (heap_alloc_new w1 _) j v hv) (txs_one [(r.extract 0 sp)]) (by unfold maxLen; omega) (by omega) (by simp; omega) ?_))
          intro v1 wp hown1 hgrow1 _
          have Hfin : Hid (WRel w s v1 (.string (mkS (trimB (toL (r.extract sp r.size))))) wp) := Lib.hid ⟨D ++ [(r.extract 0 sp)], _, rfl, txs_push hown1, (HB.out.alloc hsz _).grown hgrow1 (by simp; omega) (fun k hk => (own_blk Hown.out k hk).1), by rw [mkS_size]; exact Nat.le_trans Hty.out (by omega), by rw [mkS_size]; have := Hty.out; simp; omega, by rw [toL_mkS, trimB_idem], Hstep.out⟩
          obtain ⟨Av1, cv1, rfl, _, _, _, _⟩ := own_form hown1
          clear hown1 hgrow1
          go_wp2_with fail
          refine (trim_call (r.extract sp r.size) _).mono ?_
          rintro e w9 ⟨rfl, rfl⟩
          go_wp2_with fail
          exact ⟨Hfin.out, by unfold sizeS; simp only []; rw [mkS_size]; exact Nat.lt_of_le_of_lt Hty.out (by omega)⟩
        · have ey : ((r.extract sp r.size).toList == []) = false := by rw [toList_toL, hY, h32]; rfl
          have ey' : ((r.extract sp r.size).toList != []) = true := by rw [toList_toL, hY, h32]; rfl
          have hyz : 0 < (r.extract sp r.size).size := by rw [← toL_len, hY, h32]; simp
          have hb0 := str_byte hyz
          rw [hY, h32] at hb0
          simp only [List.getD_cons_zero] at hb0
          have hyz2 : 0 < r.size - sp := by have h := hyz; rw [← toL_len, toL_rest, List.length_drop, toL_len] at h; exact h
          have hyzI : (0 : Int) < (r.extract sp r.size).size := by omega
          have Hstep : Hid (wordsL (toL s) = (wordsL (toL (mkS (trimB (toL (r.extract sp r.size)))))).map (fun l => (D ++ [(r.extract 0 sp)]).map toL ++ l)) := Lib.hid (words_step Hq.out Htr.out Hne.out Hraw.out (.inr (by rw [h32]; rfl)) hW hY)
          clear h32 hW hY
          go_wp2_with fail
          refine (hspan.out _).mono ?_
          rintro e w1 ⟨rfl, rfl⟩
          go_wp2_with (first | (at_builtin; refine wpList_append_own _ rfl _ _ 25 rfl w.heap.size 9 i0 (.string ByteArray.empty) 1 16 Tryz.underlying25 hi0 hz0 hz1 hz2 rfl (by omega) (.slice Av D.length cv) D.length (txs D) rfl (Hown.out.alloc _) ⟨w1.heap.size, 0, none⟩ 1 1 [.string (r.extract 0 sp)] rfl rfl (fun j v hv => World.news_of_block (w := w1.alloc _) (heap_alloc_new w1 _) j v hv) (txs_one [(r.extract 0 sp)]) (by unfold maxLen; omega) (by omega) (by simp; omega) ?_))
          intro v1 wp hown1 hgrow1 _
          have Hfin : Hid (WRel w s v1 (.string (mkS (trimB (toL (r.extract sp r.size))))) wp) := Lib.hid ⟨D ++ [(r.extract 0 sp)], _, rfl, txs_push hown1, (HB.out.alloc hsz _).grown hgrow1 (by simp; omega) (fun k hk => (own_blk Hown.out k hk).1), by rw [mkS_size]; exact Nat.le_trans Hty.out (by omega), by rw [mkS_size]; have := Hty.out; simp; omega, by rw [toL_mkS, trimB_idem], Hstep.out⟩
          obtain ⟨Av1, cv1, rfl, _, _, _, _⟩ := own_form hown1
          clear hown1 hgrow1
          go_wp2_with fail
          refine (trim_call (r.extract sp r.size) _).mono ?_
          rintro e w9 ⟨rfl, rfl⟩
          go_wp2_with fail
          exact ⟨Hfin.out, by unfold sizeS; simp only []; rw [mkS_size]; exact Nat.lt_of_le_of_lt Hty.out (by omega)⟩
        · have ey : ((r.extract sp r.size).toList == []) = false := by rw [toList_toL, hY, hd]; rfl
          have ey' : ((r.extract sp r.size).toList != []) = true := by rw [toList_toL, hY, hd]; rfl
          have hyz : 0 < (r.extract sp r.size).size := by rw [← toL_len, hY, hd]; simp
          have hb0 := str_byte hyz
          rw [hY, hd] at hb0
          simp only [List.getD_cons_zero] at hb0
          have hyz2 : 0 < r.size - sp := by have h := hyz; rw [← toL_len, toL_rest, List.length_drop, toL_len] at h; exact h
          have hyzI : (0 : Int) < (r.extract sp r.size).size := by omega
          have n32 : ((d.toNat : Int) == 32) = false := by rw [beq_eq_false_iff_ne]; intro h; exact hd32 (UInt8.toNat_inj.1 (by show d.toNat = 32; omega))
          have n32' : ((d.toNat : Int) != 32) = true := by unfold bne; rw [n32]; rfl
          have Hbad := Lib.hid (words_bad Hl.out (words_no Hq.out Htr.out Hne.out (wordL_end Hraw.out (by rw [hd]; rintro (h | h); exact absurd h (by simp); exact hd32 (by simpa using h)))))
          clear hd hd32 hW hY
          go_wp2_with fail
          refine (hspan.out _).mono ?_
          rintro e w1 ⟨rfl, rfl⟩
          go_wp2_with fail
          go_ret2
          exact wd_none Hbad.out HB.out
end Go.Proofs.YtlljjddgbilipaaGreatDoor
