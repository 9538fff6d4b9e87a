/-
  The reference's Words.
-/
import Derived.Test.YtlljjddgbilipaaGreatDoorTxWq
import Derived.Deep.RegionHeld3
namespace Go.Proofs.YtlljjddgbilipaaGreatDoor
open Go.RowKit

set_option linter.unusedSimpArgs false

attribute [local go_sem] lt1 lt2 lt3 lt4 lt5 lt6

def RWRel (w : World) (s : ByteArray) (ov iv : Value) (wr : World) : Prop := ∃ (D : List ByteArray) (i : Nat), iv = .int .i64 i ∧ wr.ownsRow w.heap.size 9 1 ov D.length (txs D) ∧ Below w.heap.size w wr ∧ i ≤ s.size ∧ D.length ≤ i ∧
  wordsL (toL s) = (wordsL ((toL s).drop i)).map (fun l => D.map toL ++ l)
/-- a bare word's end -/
def RBRel (l : List UInt8) (f : Nat) (iv : Value) : Prop := ∃ i, f ≤ i ∧ i ≤ l.length ∧ iv = .int .i64 (i : Nat) ∧ ∀ j, f ≤ j → j < i → bareB (l.getD j 0) = true
theorem head_getD {l : List UInt8} {k : Nat} {d : UInt8} {t : List UInt8} (h : l.drop k = d :: t) : l.getD k 0 = d := by
  have := congrArg List.head? h
  rw [List.head?_drop] at this
  rw [List.getD_eq_getElem?_getD, this]
  rfl
theorem rest_getD {l r : List UInt8} {k : Nat} (h : l.drop k = r) (n : Nat) : l.getD (k + n) 0 = r.getD n 0 := by
  rw [← h, List.getD_eq_getElem?_getD, List.getD_eq_getElem?_getD, List.getElem?_drop]
theorem quote_size {X : UInt8} {Q : ByteArray} (h : toL Q = quoteL [X]) : 2 ≤ Q.size ∧ Q.size ≤ 8 := by
  have hz : Q.size = (quoteB X).length + 2 := by
    rw [← toL_len, h]
    unfold quoteL
    simp
  have := quoteB_len X
  omega
theorem cmp_of {X : UInt8} {Q s : ByteArray} {j n : Nat} {seg : List UInt8} (hQ : toL Q = quoteL [X]) (hs : ((toL s).drop j).take n = seg) : (quoteB X = seg → ((Q.extract 1 (Q.size - 1)).toList == (s.extract j (j + n)).toList) = true) ∧ (quoteB X ≠ seg → ((Q.extract 1 (Q.size - 1)).toList == (s.extract j (j + n)).toList) = false) := by
  rw [toList_toL, toList_toL, quote_mid X Q hQ, toL_extract, Nat.add_sub_cancel_left, hs]
  exact ⟨fun h => by rw [h]; simp, fun h => by rw [beq_eq_false_iff_ne]; exact h⟩
/-- a quoted word's round: b holds bs -/
def QIRel (w0 : World) (l : List UInt8) (f : Nat) (iv bv : Value) (wx : World) : Prop := ∃ (j : Nat) (bs : List UInt8), f ≤ j ∧ j ≤ l.length ∧ iv = .int .i64 (j : Nat) ∧ wx.ownsRow w0.heap.size 5 1 bv bs.length (u8s bs) ∧ Below w0.heap.size w0 wx ∧ bs.length ≤ j ∧
  quotedK 0 (l.drop f) = (quotedK 0 (l.drop j)).map (fun p => (bs ++ p.1, p.2))
theorem trimB_cons {c : UInt8} {r : List UInt8} (h : c ≠ 32) : trimB (c :: r) = c :: r := trimB_no ⟨c, r, rfl, h⟩
theorem rwords_no {s : ByteArray} {i : Nat} {D : List ByteArray} {c : UInt8} {r : List UInt8} (hq : wordsL (toL s) = (wordsL ((toL s).drop i)).map (fun l => D.map toL ++ l)) (hd : (toL s).drop i = c :: r) (hc : c ≠ 32) (hw : wordL (c :: r) = none) : wordsL (toL s) = none := by
  rw [hq, hd, wordsL_eq, trimB_cons hc, if_neg (by simp), hw]
  rfl
theorem rwords_step {s : ByteArray} {i k : Nat} {D : List ByteArray} {c : UInt8} {r : List UInt8} {p : List UInt8 × List UInt8} {W : ByteArray} (hq : wordsL (toL s) = (wordsL ((toL s).drop i)).map (fun l => D.map toL ++ l)) (hd : (toL s).drop i = c :: r) (hc : c ≠ 32) (hw : wordL (c :: r) = some p)
    (hW : toL W = p.1) (hk : (toL s).drop k = p.2) : wordsL (toL s) = (wordsL ((toL s).drop k)).map (fun l => (D ++ [W]).map toL ++ l) := by
  rw [hq, hd, wordsL_eq, trimB_cons hc, if_neg (by simp), hw, hk]
  simp only
  cases wordsL p.2 <;> simp [hW]
theorem span_drop {l : List UInt8} {f k : Nat} (hfk : f ≤ k) (hk : k ≤ l.length) (hb : ∀ j, f ≤ j → j < k → bareB (l.getD j 0) = true) (he : k = l.length ∨ bareB (l.getD k 0) = false) : (l.drop f).takeWhile bareB = (l.drop f).take (k - f) ∧ (l.drop f).dropWhile bareB = l.drop k := by
  have hs : spanL (l.drop f) = k - f := spanL_at (by rw [List.length_drop]; omega) (fun j hj => by
    have := hb (f + j) (by omega) (by omega)
    simpa [List.getD_eq_getElem?_getD, List.getElem?_drop] using this) (by
    rcases he with h | h
    · left; rw [List.length_drop]; omega
    · right; simpa [List.getD_eq_getElem?_getD, List.getElem?_drop, show f + (k - f) = k by omega] using h)
  unfold spanL at hs
  refine ⟨by rw [takeWhile_take, hs], by rw [dropWhile_drop, hs, List.drop_drop, show f + (k - f) = k by omega]⟩
set_option maxRecDepth 100000 in
set_option maxHeartbeats 8000000 in
theorem words_ref (w : World) (s : ByteArray) (hl : s.size ≤ 1048576) :
    Calls Tryz.prog 19 #[.string s] w (WdPost w s) := by
  obtain ⟨i0, hi0, hz0, hz1, hz2⟩ := info_parts infoStr1
  by_cases hlong : 65536 < s.size
  · have hI : (65536 : Int) < s.size := by omega
    go_enter Tryz.func19, Tryz.ntmps19
    go_wp2_with fail
    go_ret2
    exact wd_none (words_long (by rw [toL_len]; exact hlong)) (Below.refl _ _)
  have hI : ¬ (65536 : Int) < s.size := by omega
  have Hl : Hid (¬ 65536 < (toL s).length) := Lib.hid (by rw [toL_len]; exact hlong)
  go_enter Tryz.func19, Tryz.ntmps19
  go_wp2_with fail
  go_loopw [4, 5] (fun ov iv wr => RWRel w s ov iv wr) (fun _ iv _ => s.size - (intOf iv).toNat)
  case atStart => exact ⟨[], 0, rfl, World.ownsRow_nil _ _ _ _, Below.refl _ _, by omega, by simp, by simp⟩
  case round =>
    obtain ⟨D, i, rfl, hown, hB, hi, hDi, hq⟩ := hrel
    have Hown := Lib.hid hown
    have HB := Lib.hid hB
    have Hq := Lib.hid hq
    have hsz := hB.size
    obtain ⟨Av, cv, rfl, _, _, _, _⟩ := own_form hown
    clear hown hB hq
    have hir : (0 : Int) ≤ i := by omega
    by_cases hlt : i < s.size
    case neg =>
      have hIl : ¬ (i : Int) < s.size := by omega
      have Hend : Hid (wordsErr (toL s) = 0 ∧ wordsOf (toL s) = D.map toL) := Lib.hid (words_good Hl.out (by rw [Hq.out, List.drop_eq_nil_of_le (by rw [toL_len]; omega), wordsL_nil]; simp))
      go_wp2_with fail
      go_ret2
      exact ⟨D, _, by rw [Hend.out.1]; rfl, Hown.out, HB.out, Hend.out.2.symm⟩
    have hIl : (i : Int) < s.size := by omega
    have hb := str_byte hlt
    have hd := drop_getD (L := toL s) (i := i) (by rw [toL_len]; omega)
    obtain ⟨c, hc⟩ : ∃ c, c = (toL s).getD i 0 := ⟨_, rfl⟩
    rw [← hc] at hb hd
    have Hd := Lib.hid hd
    have Hc := Lib.hid hc
    clear hc hd
    by_cases h32 : c = 32
    · subst h32
      have Hfin : Hid (RWRel w s (.slice Av D.length cv) (.int .i64 ((i : Int) + 1)) wr) := Lib.hid ⟨D, i + 1, rfl, Hown.out, HB.out, by omega, by omega, by rw [Hq.out, Hd.out, wordsL_blank]⟩
      go_wp2_with fail
      exact ⟨Hfin.out, by simp [intOf]; omega⟩
    have n32 : ((c.toNat : Int) == 32) = false := by rw [beq_eq_false_iff_ne]; intro h; exact h32 (UInt8.toNat_inj.1 (by show c.toNat = 32; omega))
    by_cases h34 : c = 34
    · subst h34
      rename World => w0
      have HKO : Hid (∀ wz, Below w0.heap.size w0 wz → wz.ownsRow w.heap.size 9 1 (.slice Av D.length cv) D.length (txs D) ∧ Below w.heap.size w wz) := Lib.hid fun wz hz => ⟨own_keep Hown.out fun g cs hg => (hz.block g (lt_of_heap hg)).trans hg, HB.out.trans (hz.mono hsz)⟩
      have Hbad : Hid (quotedK 0 ((toL s).drop (i + 1)) = none → wordsErr (toL s) = 15 ∧ wordsOf (toL s) = []) := Lib.hid fun h => words_bad Hl.out (rwords_no Hq.out Hd.out h32 (wordL_raw (by rw [rawW_cons, if_pos rfl]; exact h)))
      clear h32 n32
      obtain ⟨k0, hk0, hy0, hy1, hy2⟩ := info_parts infoU8
      go_wp2_with fail
      go_loopw [5, 7] (fun iv bv wx => QIRel w0 (toL s) (i + 1) iv bv wx) (fun iv _ _ => s.size - (intOf iv).toNat)
      case atStart => exact ⟨i + 1, [], by omega, by rw [toL_len]; omega, rfl, World.ownsRow_nil _ _ _ _, Below.refl _ _, by simp, by simp⟩
      case round =>
        obtain ⟨j, bs, hfj, hj, rfl, hbown, hbB, hbl, hqk⟩ := hrel
        rw [toL_len] at hj
        have Hbown := Lib.hid hbown
        have HbB := Lib.hid hbB
        have Hqk := Lib.hid hqk
        have hszw := hbB.size
        have HKB : Hid (∀ wz, Below wr.heap.size wr wz → wz.ownsRow w0.heap.size 5 1 u7 bs.length (u8s bs) ∧ Below w0.heap.size w0 wz) := Lib.hid fun wz hz => ⟨own_keep hbown fun g cs hg => (hz.block g (lt_of_heap hg)).trans hg, hbB.trans (hz.mono hszw)⟩
        obtain ⟨Bv, bc, hbv, _, _, _, _⟩ := own_form hbown
        subst hbv
        clear hbown hbB hqk
        have hjr : (0 : Int) ≤ j := by omega
        by_cases hjl : j < s.size
        case neg =>
          have hjI : ¬ (j : Int) < s.size := by omega
          have hge : (s.size : Int) ≤ j := by omega
          have Hb0 := Lib.hid (Hbad.out (by rw [Hqk.out, List.drop_eq_nil_of_le (by rw [toL_len]; omega)]; rfl))
          have HE := Lib.hid (HKO.out _ HbB.out).2
          go_wp2_with fail
          go_ret2
          exact wd_none Hb0.out HE.out
        have hjI : (j : Int) < s.size := by omega
        have hb2 := str_byte hjl
        have hd2 := drop_getD (L := toL s) (i := j) (by rw [toL_len]; omega)
        obtain ⟨x, hx⟩ : ∃ x, x = (toL s).getD j 0 := ⟨_, rfl⟩
        rw [← hx] at hb2 hd2
        have Hd2 := Lib.hid hd2
        clear hx hd2
        by_cases hx34 : x = 34
        · have Hend : Hid (quotedK 0 ((toL s).drop (i + 1)) = some (bs, (toL s).drop (j + 1))) := Lib.hid (by rw [Hqk.out, Hd2.out, hx34, quo_end]; simp)
          have Hown2 := Lib.hid (HKO.out _ HbB.out)
          have hsz2 : w.heap.size ≤ wr.heap.size := Hown2.out.2.size
          have hcv : (convert 30 9 (.slice Bv bs.length bc)).run Tryz.prog wr = .ok (.string (⟨bs.toArray⟩ : ByteArray)) wr := str_of_bs (own_bs_at Hbown.out)
          have hnge : ¬ (s.size : Int) ≤ j := by omega
          have x34b : ((x.toNat : Int) == 34) = true := by rw [hx34]; rfl
          have x34c : ((x.toNat : Int) != 34) = false := by unfold bne; rw [x34b]; rfl
          have hW : toL (⟨bs.toArray⟩ : ByteArray) = bs := rfl
          have hj1 : IntKind.i64.wrap ((j : Int) + 1) = (j : Int) + 1 := IntWalk.i64_in _ (by omega)
          rcases end_cases ((toL s).drop (j + 1)) with hn | ⟨t2, hn⟩ | ⟨d, t2, hn, hd32⟩
          · have Hstep : Hid (wordsL (toL s) = (wordsL ((toL s).drop (j + 1))).map (fun l => (D ++ [(⟨bs.toArray⟩ : ByteArray)]).map toL ++ l)) := Lib.hid (rwords_step Hq.out Hd.out (by decide) (wordL_of (by rw [rawW_cons, if_pos rfl]; exact Hend.out) (.inl hn)) hW rfl)
            have hje : (s.size : Int) = (j : Int) + 1 := by
              have := congrArg List.length hn
              rw [List.length_drop, toL_len] at this
              simp at this
              omega
            have hnl : ¬ (j : Int) + 1 < s.size := by omega
            clear hn hx34 hj1 hje
            go_wp2_with (first | (at_builtin; refine wpList_append_own _ rfl _ _ 25 rfl w.heap.size 9 i0 (.string ByteArray.empty) 1 16 Tryz.underlying25 hi0 hz0 hz1 hz2 rfl (by omega) (.slice Av D.length cv) D.length (txs D) rfl (Hown2.out.1.alloc _) ⟨wr.heap.size, 0, none⟩ 1 1 [.string (⟨bs.toArray⟩ : ByteArray)] rfl rfl (fun j v hv => World.news_of_block (w := wr.alloc _) (heap_alloc_new wr _) j v hv) (txs_one [(⟨bs.toArray⟩ : ByteArray)]) (by unfold maxLen; omega) (by omega) (by simp; omega) ?_))
            intro v1 wp hown1 hgrow1 _
            have Hfin : Hid (RWRel w s v1 (.int .i64 ((j : Int) + 1)) wp) := Lib.hid ⟨D ++ [(⟨bs.toArray⟩ : ByteArray)], j + 1, rfl, txs_push hown1, (Hown2.out.2.alloc hsz2 _).grown hgrow1 (by simp; omega) (fun k hk => (own_blk Hown2.out.1 k hk).1), by omega, by simp; omega, Hstep.out⟩
            obtain ⟨Av1, cv1, hv1, _, _, _, _⟩ := own_form hown1
            subst hv1
            clear hown1 hgrow1
            go_wp2_with fail
            exact ⟨Hfin.out, by simp [intOf]; omega⟩
          · have Hstep : Hid (wordsL (toL s) = (wordsL ((toL s).drop (j + 1))).map (fun l => (D ++ [(⟨bs.toArray⟩ : ByteArray)]).map toL ++ l)) := Lib.hid (rwords_step Hq.out Hd.out (by decide) (wordL_of (by rw [rawW_cons, if_pos rfl]; exact Hend.out) (.inr (by simp only; rw [hn]; rfl))) hW rfl)
            have hjl2 : j + 1 < s.size := by
              have := congrArg List.length hn
              rw [List.length_drop, toL_len] at this
              simp at this
              omega
            have hnl : (j : Int) + 1 < s.size := by omega
            have hb3 := str_byte hjl2
            rw [show (toL s).getD (j + 1) 0 = 32 from head_getD hn] at hb3
            clear hn hx34 hj1
            go_wp2_with (first | (at_builtin; refine wpList_append_own _ rfl _ _ 25 rfl w.heap.size 9 i0 (.string ByteArray.empty) 1 16 Tryz.underlying25 hi0 hz0 hz1 hz2 rfl (by omega) (.slice Av D.length cv) D.length (txs D) rfl (Hown2.out.1.alloc _) ⟨wr.heap.size, 0, none⟩ 1 1 [.string (⟨bs.toArray⟩ : ByteArray)] rfl rfl (fun j v hv => World.news_of_block (w := wr.alloc _) (heap_alloc_new wr _) j v hv) (txs_one [(⟨bs.toArray⟩ : ByteArray)]) (by unfold maxLen; omega) (by omega) (by simp; omega) ?_))
            intro v1 wp hown1 hgrow1 _
            have Hfin : Hid (RWRel w s v1 (.int .i64 ((j : Int) + 1)) wp) := Lib.hid ⟨D ++ [(⟨bs.toArray⟩ : ByteArray)], j + 1, rfl, txs_push hown1, (Hown2.out.2.alloc hsz2 _).grown hgrow1 (by simp; omega) (fun k hk => (own_blk Hown2.out.1 k hk).1), by omega, by simp; omega, Hstep.out⟩
            obtain ⟨Av1, cv1, hv1, _, _, _, _⟩ := own_form hown1
            subst hv1
            clear hown1 hgrow1
            go_wp2_with fail
            exact ⟨Hfin.out, by simp [intOf]; omega⟩
          · have Hb0 := Lib.hid (words_bad Hl.out (rwords_no Hq.out Hd.out (by decide) (wordL_end (by rw [rawW_cons, if_pos rfl]; exact Hend.out) (by
              simp only
              rw [hn]
              rintro (h | h)
              · exact absurd h (by simp)
              · exact hd32 (by simpa using h)))))
            have hjl2 : j + 1 < s.size := by
              have := congrArg List.length hn
              rw [List.length_drop, toL_len] at this
              simp at this
              omega
            have hnl : (j : Int) + 1 < s.size := by omega
            have hb3 := str_byte hjl2
            rw [show (toL s).getD (j + 1) 0 = d from head_getD hn] at hb3
            have d32 : ((d.toNat : Int) == 32) = false := by rw [beq_eq_false_iff_ne]; intro h; exact hd32 (UInt8.toNat_inj.1 (by show d.toNat = 32; omega))
            have d32' : ((d.toNat : Int) != 32) = true := by unfold bne; rw [d32]; rfl
            clear hn hx34 hd32 hj1
            go_wp2_with fail
            go_ret2
            exact wd_none Hb0.out Hown2.out.2
        have x34 : ((x.toNat : Int) == 34) = false := by rw [beq_eq_false_iff_ne]; intro h; exact hx34 (UInt8.toNat_inj.1 (by show x.toNat = 34; omega))
        have x34' : ((x.toNat : Int) != 34) = true := by unfold bne; rw [x34]; rfl
        by_cases hx92 : x = 92
        · subst hx92
          have Hno : Hid (escL ((toL s).drop (j + 1)) = none → wordsErr (toL s) = 15 ∧ wordsOf (toL s) = []) := Lib.hid fun h => Hbad.out (by rw [Hqk.out, Hd2.out, quo_noesc h]; rfl)
          have Hyes : Hid (∀ X n, escL ((toL s).drop (j + 1)) = some (X, n) → quotedK 0 ((toL s).drop (i + 1)) = (quotedK 0 ((toL s).drop (j + (n + 1)))).map (fun p => (bs ++ [X] ++ p.1, p.2))) := Lib.hid fun X n h => by
            rw [Hqk.out, Hd2.out, quo_esc h, List.drop_drop, show j + 1 + n = j + (n + 1) by omega]
            cases quotedK 0 ((toL s).drop (j + (n + 1))) <;> simp
          have HE := Lib.hid (HKO.out _ HbB.out).2
          have hsub := congrArg List.length Hd2.out
          rw [List.length_cons, List.length_drop, List.length_drop, toL_len] at hsub
          rcases esc_ways ((toL s).drop (j + 1)) with ⟨y, t, hr, hy⟩ | ⟨hn, hr⟩ | ⟨y, t, hr, hy34, hy92, hn, hl5⟩ | ⟨y, b1, b2, t, hr, ht2, hy34, hy92, hn, hne⟩ | ⟨h, l, t, hr⟩
          · have hz := congrArg List.length hr
            rw [List.length_drop, List.length_cons, toL_len] at hz
            have hj1l : j + 1 < s.size := by omega
            have hj1I : (j : Int) + 1 < s.size := by omega
            have hb3 := str_byte hj1l
            rw [head_getD hr] at hb3
            have hE : ((y.toNat : Int) == 34) = true ∨ ((y.toNat : Int) == 34) = false ∧ ((y.toNat : Int) == 92) = true := by
              rcases hy with rfl | rfl
              · exact .inl rfl
              · exact .inr ⟨rfl, rfl⟩
            have hseg : ((toL s).drop j).take 2 = [92, y] := by rw [Hd2.out, hr]; rfl
            have Heq : Hid (quoteB y = [92, y]) := Lib.hid (quoteB_esc hy)
            have Hstep := Lib.hid (Hyes.out y 1 (by rw [hr, escL_cons, if_pos hy]))
            have hszj : (j : Int) + 2 ≤ s.size := by omega
            clear hy hr hz hsub hx34
            rcases hE with y34 | ⟨y34, y92⟩
            all_goals
              have HWN : Hid (Below wr.heap.size wr wr) := Lib.hid (Below.refl _ _)
              have hcv1 : (convert 30 9 (.slice (some ⟨wr.heap.size, 0, none⟩) 1 1)).run Tryz.prog (wr.alloc (.cells #[.int .u8 (y.toNat : Nat)] 5)) = .ok (.string ⟨#[y]⟩) (wr.alloc (.cells #[.int .u8 (y.toNat : Nat)] 5)) := by
                exact str_of_bs (l := [y]) (Bs.of_block (heap_alloc_new wr _) (by simp) (by unfold maxLen; omega))
              go_wp2_with fail
              refine (quote_ref _ ⟨#[y]⟩ (by show (1 : Nat) ≤ 1048576; omega)).mono ?_
              rintro e wq ⟨rfl, hBq⟩
              have HWQ : Hid (Below wr.heap.size wr wq) := Lib.hid ((HWN.out.alloc HWN.out.size _).trans (hBq.mono (by have := HWN.out.size; first | (simp; done) | (simp; omega))))
              obtain ⟨Q, hQ⟩ : ∃ Q, Q = mkS (quoteL (toL ⟨#[y]⟩)) := ⟨_, rfl⟩
              rw [← hQ]
              have hQt : toL Q = quoteL [y] := by rw [hQ]; rfl
              have hcmp := cmp_of hQt hseg
              have hQz := quote_size hQt
              have z1 : IntKind.i64.wrap ((Q.size : Int) - 1) = (Q.size : Int) - 1 := IntWalk.i64_in _ (by omega)
              have z2 : (0 : Int) ≤ (Q.size : Int) - 1 := by omega
              have z3 : (1 : Int) ≤ (Q.size : Int) - 1 := by omega
              have z4 : (Q.size : Int) - 1 ≤ Q.size := by omega
              have z5 : ((Q.size : Int) - 1).toNat = Q.size - 1 := by omega
              have y1 : IntKind.i64.wrap ((j : Int) + 2) = (j : Int) + 2 := IntWalk.i64_in _ (by omega)
              have y2 : (0 : Int) ≤ (j : Int) + 2 := by omega
              have y3 : (j : Int) ≤ (j : Int) + 2 := by omega
              have y4 : (j : Int) + 2 ≤ s.size := by omega
              have y5 : ((j : Int) + 2).toNat = j + 2 := by omega
              have hcm : ((Q.extract 1 (Q.size - 1)).toList == (s.extract j (j + 2)).toList) = true := by
                exact hcmp.1 Heq.out
              clear hQt hcmp hcv1 hQ hBq
              go_wp2_with fail
              go_quiet (fail)
              clear z1 z2 z3 z4 z5 y1 y2 y3 y4 y5 hcm
              have HbZ := Lib.hid (HKB.out _ (below_drewN HWQ.out nq))
              have hszz : w0.heap.size ≤ (wq.drewN nq).heap.size := HbZ.out.2.size
              generalize wq.drewN nq = wz at *
              go_wp2_with (first | (at_builtin; refine wpList_append_own _ rfl _ _ 30 rfl w0.heap.size 5 k0 (.int .u8 0) 1 1 Tryz.underlying30 hk0 hy0 hy1 hy2 rfl (by omega) (.slice Bv bs.length bc) bs.length (u8s bs) rfl (HbZ.out.1.alloc _) ⟨wz.heap.size, 0, none⟩ 1 1 [.int .u8 (y.toNat : Nat)] rfl rfl (fun j v hv => World.news_of_block (w := wz.alloc _) (heap_alloc_new wz _) j v hv) (one_cell _) (by unfold maxLen; omega) (by omega) (by simp; omega) ?_))
              intro v1 wp hown1 hgrow1 _
              have Hfin : Hid (QIRel w0 (toL s) (i + 1) (.int .i64 ((j : Int) + 2)) v1 wp) := Lib.hid ⟨j + 2, bs ++ [y], by omega, by rw [toL_len]; omega, rfl, u8s_push (by exact hown1), (HbZ.out.2.alloc hszz _).grown hgrow1 (by simp; omega) (fun k hk => (own_blk HbZ.out.1 k hk).1), by simp; omega, Hstep.out⟩
              obtain ⟨Bv1, bc1, hv1, _, _, _, _⟩ := own_form hown1
              subst hv1
              clear hown1 hgrow1
              go_wp2_with fail
              exact ⟨Hfin.out, by simp [intOf]; omega⟩
          · have hz := congrArg List.length hr
            rw [List.length_drop, List.length_nil, toL_len] at hz
            have hj1I : ¬ (j : Int) + 1 < s.size := by omega
            have hj6I : ¬ (j : Int) + 6 ≤ s.size := by omega
            have Hb0 := Lib.hid (Hno.out hn)
            clear hr hz hsub hn hx34
            go_wp2_with fail
            go_ret2
            exact wd_none Hb0.out HE.out
          · have hz := congrArg List.length hr
            rw [List.length_drop, List.length_cons, toL_len] at hz
            rw [hr, List.length_cons] at hl5
            have hj1l : j + 1 < s.size := by omega
            have hj1I : (j : Int) + 1 < s.size := by omega
            have hj6I : ¬ (j : Int) + 6 ≤ s.size := by omega
            have hb3 := str_byte hj1l
            rw [head_getD hr] at hb3
            have y34 : ((y.toNat : Int) == 34) = false := by rw [beq_eq_false_iff_ne]; intro h; exact hy34 (UInt8.toNat_inj.1 (by show y.toNat = 34; omega))
            have y92 : ((y.toNat : Int) == 92) = false := by rw [beq_eq_false_iff_ne]; intro h; exact hy92 (UInt8.toNat_inj.1 (by show y.toNat = 92; omega))
            have Hb0 := Lib.hid (Hno.out hn)
            clear hr hz hsub hn hl5 hy34 hy92 hx34
            go_wp2_with fail
            go_ret2
            exact wd_none Hb0.out HE.out
          · have hz := congrArg List.length hr
            rw [List.length_drop, List.length_cons, List.length_cons, List.length_cons, toL_len] at hz
            have hj1l : j + 1 < s.size := by omega
            have hj1I : (j : Int) + 1 < s.size := by omega
            have hj6I : (j : Int) + 6 ≤ s.size := by omega
            have hj4I : (j : Int) + 4 ≤ s.size := by omega
            have hb3 := str_byte hj1l
            rw [head_getD hr] at hb3
            have y34 : ((y.toNat : Int) == 34) = false := by rw [beq_eq_false_iff_ne]; intro h; exact hy34 (UInt8.toNat_inj.1 (by show y.toNat = 34; omega))
            have y92 : ((y.toNat : Int) == 92) = false := by rw [beq_eq_false_iff_ne]; intro h; exact hy92 (UInt8.toNat_inj.1 (by show y.toNat = 92; omega))
            have hex : toL (s.extract (j + 1) (j + 4)) = [y, b1, b2] := by rw [toL_extract, hr, show j + 4 - (j + 1) = 3 by omega]; rfl
            have e3 : ((s.extract (j + 1) (j + 4)).toList == [117, 48, 48]) = false := by rw [toList_toL, hex, beq_eq_false_iff_ne]; exact hne
            have Hb0 := Lib.hid (Hno.out hn)
            clear hr hz hsub hn hy34 hy92 ht2 hex hne hx34
            go_wp2_with fail
            go_ret2
            exact wd_none Hb0.out HE.out
          · have hz := congrArg List.length hr
            rw [List.length_drop] at hz
            simp only [List.length_cons] at hz
            rw [toL_len] at hz
            have hj1l : j + 1 < s.size := by omega
            have hj4l : j + 4 < s.size := by omega
            have hj5l : j + 5 < s.size := by omega
            have hj1I : (j : Int) + 1 < s.size := by omega
            have hj6I : (j : Int) + 6 ≤ s.size := by omega
            have hj4I : (j : Int) + 4 < s.size := by omega
            have hj5I : (j : Int) + 5 < s.size := by omega
            have hb3 := str_byte hj1l
            have hb4 := str_byte hj4l
            have hb5 := str_byte hj5l
            rw [head_getD hr] at hb3
            rw [rest_getD hr 3] at hb4
            rw [rest_getD hr 4] at hb5
            simp only [List.getD_cons_succ, List.getD_cons_zero] at hb4 hb5
            have hex : toL (s.extract (j + 1) (j + 4)) = [117, 48, 48] := by rw [toL_extract, hr, show j + 4 - (j + 1) = 3 by omega]; rfl
            have e3 : ((s.extract (j + 1) (j + 4)).toList == [117, 48, 48]) = true := by rw [toList_toL, hex]; rfl
            have Hr := Lib.hid hr
            clear hr hz hsub hex hx34
            rcases place_of h with ⟨a1, a2⟩ | ⟨a, a1, a2, a3⟩
            · have Hb0 := Lib.hid (Hno.out (by rw [Hr.out, escL_cons, if_neg (by decide)]; exact uniL_no (.inl a1)))
              have HPh : Hid (∀ w, Calls Tryz.prog 42 #[.int .u8 (h.toNat : Nat)] w fun e w' => e = .returned (.int .i64 (-1)) ∧ w' = w) := Lib.hid fun w => (place_ref h w).mono fun e w' ⟨he, hw⟩ => ⟨by rw [he, a2], hw.symm⟩
              clear a1 a2 Hr
              go_wp2_with fail
              refine (HPh.out _).mono ?_
              rintro e w1 ⟨rfl, hw⟩
              obtain rfl := hw.symm
              go_wp2_with fail
              go_ret2
              exact wd_none Hb0.out HE.out
            · have HPh : Hid (∀ w, Calls Tryz.prog 42 #[.int .u8 (h.toNat : Nat)] w fun e w' => e = .returned (.int .i64 (a : Nat)) ∧ w' = w) := Lib.hid fun w => (place_ref h w).mono fun e w' ⟨he, hw⟩ => ⟨by rw [he, a3], hw.symm⟩
              have a0 : (0 : Int) ≤ a := by omega
              rcases place_of l with ⟨b1, b2⟩ | ⟨b, b1, b2, b3⟩
              · have Hb0 := Lib.hid (Hno.out (by rw [Hr.out, escL_cons, if_neg (by decide)]; exact uniL_no (.inr b1)))
                have HPl : Hid (∀ w, Calls Tryz.prog 42 #[.int .u8 (l.toNat : Nat)] w fun e w' => e = .returned (.int .i64 (-1)) ∧ w' = w) := Lib.hid fun w => (place_ref l w).mono fun e w' ⟨he, hw⟩ => ⟨by rw [he, b2], hw.symm⟩
                clear a1 a3 b1 b2 Hr
                go_wp2_with fail
                refine (HPh.out _).mono ?_
                rintro e w1 ⟨rfl, hw⟩
                obtain rfl := hw.symm
                go_wp2_with fail
                refine (HPl.out _).mono ?_
                rintro e w1 ⟨rfl, hw⟩
                obtain rfl := hw.symm
                go_wp2_with fail
                go_ret2
                exact wd_none Hb0.out HE.out
              · have HPl : Hid (∀ w, Calls Tryz.prog 42 #[.int .u8 (l.toNat : Nat)] w fun e w' => e = .returned (.int .i64 (b : Nat)) ∧ w' = w) := Lib.hid fun w => (place_ref l w).mono fun e w' ⟨he, hw⟩ => ⟨by rw [he, b3], hw.symm⟩
                have b0 : (0 : Int) ≤ b := by omega
                obtain ⟨X, hXe⟩ : ∃ X, X = UInt8.ofNat (16 * a + b) := ⟨_, rfl⟩
                have HX : Hid (((X.toNat : Nat) : Int) = (a : Int) * 16 + b) := Lib.hid (by rw [hXe, UInt8.toNat_ofNat']; omega)
                have hseg : ((toL s).drop j).take 6 = [92, 117, 48, 48, h, l] := by rw [Hd2.out, Hr.out]; rfl
                have hqu := quoteB_uni a1 b1
                have huh : escL ((toL s).drop (j + 1)) = if oddB X then some (X, 5) else none := by rw [Hr.out, escL_cons, if_neg (by decide), uniL_hex a1 b1, hXe]
                rw [← hXe] at hqu
                have k4 : IntKind.i64.wrap ((j : Int) + 4) = (j : Int) + 4 := IntWalk.i64_in _ (by omega)
                have k5 : IntKind.i64.wrap ((j : Int) + 5) = (j : Int) + 5 := IntWalk.i64_in _ (by omega)
                have k6 : (0 : Int) ≤ (j : Int) + 4 := by omega
                have k7 : (0 : Int) ≤ (j : Int) + 5 := by omega
                have k8 : ((j : Int) + 4).toNat = j + 4 := by omega
                have k9 : ((j : Int) + 5).toNat = j + 5 := by omega
                have m1 : IntKind.i64.wrap ((a : Int) * 16) = (a : Int) * 16 := IntWalk.i64_in _ (by omega)
                have m2 : IntKind.i64.wrap ((a : Int) * 16 + b) = (a : Int) * 16 + b := IntWalk.i64_in _ (by omega)
                have m3 : IntKind.u8.wrap ((a : Int) * 16 + b) = (a : Int) * 16 + b := wrap_u8 (by omega) (by omega)
                have m4 : ((a : Int) * 16 + b) % 256 = (a : Int) * 16 + b := by omega
                have Hqu := Lib.hid hqu
                have Huh := Lib.hid huh
                clear a1 a3 b1 b3 Hr hXe hqu huh
                go_wp2_with fail
                refine (HPh.out _).mono ?_
                rintro e w1 ⟨rfl, hw⟩
                obtain rfl := hw.symm
                go_wp2_with fail
                refine (HPl.out _).mono ?_
                rintro e w1 ⟨rfl, hw⟩
                obtain rfl := hw.symm
                go_wp2_with fail
                go_quiet (first | (go_at_call_of 42 (Value.int .u8 (h.toNat : Nat)); exact Calls.quiet_of_same (HPh.out _)) | (go_at_call_of 42 (Value.int .u8 (l.toNat : Nat)); exact Calls.quiet_of_same (HPl.out _)))
                clear k4 k5 k6 k7 k8 k9 m1 m2 m3 m4
                have HWN := Lib.hid (below_drewN (Below.refl wr.heap.size wr) nq)
                generalize wr.drewN nq = wn at *
                rcases Bool.eq_false_or_eq_true (oddB X) with ho | ho
                · have Heq : Hid (quoteB X = [92, 117, 48, 48, h, l]) := Lib.hid (Hqu.out.2 ho)
                  have Hstep := Lib.hid (Hyes.out X 5 (by rw [Huh.out, if_pos ho]))
                  clear ho
                  have hcv1 : (convert 30 9 (.slice (some ⟨wn.heap.size, 0, none⟩) 1 1)).run Tryz.prog (wn.alloc (.cells #[.int .u8 ((a : Int) * 16 + b)] 5)) = .ok (.string ⟨#[X]⟩) (wn.alloc (.cells #[.int .u8 ((a : Int) * 16 + b)] 5)) := by
                    have h := str_of_bs (w := wn.alloc (.cells #[.int .u8 (X.toNat : Nat)] 5)) (l := [X]) (c := 1) (Bs.of_block (heap_alloc_new wn _) (by simp) (by unfold maxLen; omega))
                    rw [HX.out] at h
                    exact h
                  go_wp2_with fail
                  refine (quote_ref _ ⟨#[X]⟩ (by show (1 : Nat) ≤ 1048576; omega)).mono ?_
                  rintro e wq ⟨rfl, hBq⟩
                  have HWQ : Hid (Below wr.heap.size wr wq) := Lib.hid ((HWN.out.alloc HWN.out.size _).trans (hBq.mono (by have := HWN.out.size; first | (simp; done) | (simp; omega))))
                  obtain ⟨Q, hQ⟩ : ∃ Q, Q = mkS (quoteL (toL ⟨#[X]⟩)) := ⟨_, rfl⟩
                  rw [← hQ]
                  have hQt : toL Q = quoteL [X] := by rw [hQ]; rfl
                  have hcmp := cmp_of hQt hseg
                  have hQz := quote_size hQt
                  have z1 : IntKind.i64.wrap ((Q.size : Int) - 1) = (Q.size : Int) - 1 := IntWalk.i64_in _ (by omega)
                  have z2 : (0 : Int) ≤ (Q.size : Int) - 1 := by omega
                  have z3 : (1 : Int) ≤ (Q.size : Int) - 1 := by omega
                  have z4 : (Q.size : Int) - 1 ≤ Q.size := by omega
                  have z5 : ((Q.size : Int) - 1).toNat = Q.size - 1 := by omega
                  have y1 : IntKind.i64.wrap ((j : Int) + 6) = (j : Int) + 6 := IntWalk.i64_in _ (by omega)
                  have y2 : (0 : Int) ≤ (j : Int) + 6 := by omega
                  have y3 : (j : Int) ≤ (j : Int) + 6 := by omega
                  have y4 : (j : Int) + 6 ≤ s.size := by omega
                  have y5 : ((j : Int) + 6).toNat = j + 6 := by omega
                  have hcm : ((Q.extract 1 (Q.size - 1)).toList == (s.extract j (j + 6)).toList) = true := by
                    exact hcmp.1 Heq.out
                  clear hQt hcmp hcv1 hQ hBq
                  go_wp2_with fail
                  go_quiet (fail)
                  clear z1 z2 z3 z4 z5 y1 y2 y3 y4 y5 hcm
                  have HbZ := Lib.hid (HKB.out _ (below_drewN HWQ.out nq))
                  have hszz : w0.heap.size ≤ (wq.drewN nq).heap.size := HbZ.out.2.size
                  generalize wq.drewN nq = wz at *
                  go_wp2_with (first | (at_builtin; refine wpList_append_own _ rfl _ _ 30 rfl w0.heap.size 5 k0 (.int .u8 0) 1 1 Tryz.underlying30 hk0 hy0 hy1 hy2 rfl (by omega) (.slice Bv bs.length bc) bs.length (u8s bs) rfl (HbZ.out.1.alloc _) ⟨wz.heap.size, 0, none⟩ 1 1 [.int .u8 ((a : Int) * 16 + b)] rfl rfl (fun j v hv => World.news_of_block (w := wz.alloc _) (heap_alloc_new wz _) j v hv) (one_cell _) (by unfold maxLen; omega) (by omega) (by simp; omega) ?_))
                  intro v1 wp hown1 hgrow1 _
                  have Hfin : Hid (QIRel w0 (toL s) (i + 1) (.int .i64 ((j : Int) + 6)) v1 wp) := Lib.hid ⟨j + 6, bs ++ [X], by omega, by rw [toL_len]; omega, rfl, u8s_push (by rw [HX.out]; exact hown1), (HbZ.out.2.alloc hszz _).grown hgrow1 (by simp; omega) (fun k hk => (own_blk HbZ.out.1 k hk).1), by simp; omega, Hstep.out⟩
                  obtain ⟨Bv1, bc1, hv1, _, _, _, _⟩ := own_form hown1
                  subst hv1
                  clear hown1 hgrow1
                  go_wp2_with fail
                  exact ⟨Hfin.out, by simp [intOf]; omega⟩
                · have Heq : Hid (quoteB X ≠ [92, 117, 48, 48, h, l]) := Lib.hid (fun h => by rw [Hqu.out.1 h] at ho; exact absurd ho (by decide))
                  have HbadN := Lib.hid (Hno.out (by rw [Huh.out, if_neg (by rw [ho]; decide)]))
                  clear ho
                  have hcv1 : (convert 30 9 (.slice (some ⟨wn.heap.size, 0, none⟩) 1 1)).run Tryz.prog (wn.alloc (.cells #[.int .u8 ((a : Int) * 16 + b)] 5)) = .ok (.string ⟨#[X]⟩) (wn.alloc (.cells #[.int .u8 ((a : Int) * 16 + b)] 5)) := by
                    have h := str_of_bs (w := wn.alloc (.cells #[.int .u8 (X.toNat : Nat)] 5)) (l := [X]) (c := 1) (Bs.of_block (heap_alloc_new wn _) (by simp) (by unfold maxLen; omega))
                    rw [HX.out] at h
                    exact h
                  go_wp2_with fail
                  refine (quote_ref _ ⟨#[X]⟩ (by show (1 : Nat) ≤ 1048576; omega)).mono ?_
                  rintro e wq ⟨rfl, hBq⟩
                  have HWQ : Hid (Below wr.heap.size wr wq) := Lib.hid ((HWN.out.alloc HWN.out.size _).trans (hBq.mono (by have := HWN.out.size; first | (simp; done) | (simp; omega))))
                  obtain ⟨Q, hQ⟩ : ∃ Q, Q = mkS (quoteL (toL ⟨#[X]⟩)) := ⟨_, rfl⟩
                  rw [← hQ]
                  have hQt : toL Q = quoteL [X] := by rw [hQ]; rfl
                  have hcmp := cmp_of hQt hseg
                  have hQz := quote_size hQt
                  have z1 : IntKind.i64.wrap ((Q.size : Int) - 1) = (Q.size : Int) - 1 := IntWalk.i64_in _ (by omega)
                  have z2 : (0 : Int) ≤ (Q.size : Int) - 1 := by omega
                  have z3 : (1 : Int) ≤ (Q.size : Int) - 1 := by omega
                  have z4 : (Q.size : Int) - 1 ≤ Q.size := by omega
                  have z5 : ((Q.size : Int) - 1).toNat = Q.size - 1 := by omega
                  have y1 : IntKind.i64.wrap ((j : Int) + 6) = (j : Int) + 6 := IntWalk.i64_in _ (by omega)
                  have y2 : (0 : Int) ≤ (j : Int) + 6 := by omega
                  have y3 : (j : Int) ≤ (j : Int) + 6 := by omega
                  have y4 : (j : Int) + 6 ≤ s.size := by omega
                  have y5 : ((j : Int) + 6).toNat = j + 6 := by omega
                  have hcm : ((Q.extract 1 (Q.size - 1)).toList == (s.extract j (j + 6)).toList) = false := by
                    exact hcmp.2 Heq.out
                  clear hQt hcmp hcv1 hQ hBq
                  go_wp2_with fail
                  go_quiet (fail)
                  clear z1 z2 z3 z4 z5 y1 y2 y3 y4 y5 hcm
                  have HE := Lib.hid (HKO.out _ (below_drewN (HbB.out.trans (HWQ.out.mono hszw)) nq)).2
                  go_wp2_with fail
                  go_ret2
                  exact wd_none HbadN.out HE.out
        have x92 : ((x.toNat : Int) == 92) = false := by rw [beq_eq_false_iff_ne]; intro h; exact hx92 (UInt8.toNat_inj.1 (by show x.toNat = 92; omega))
        have hseg : ((toL s).drop j).take 1 = [x] := by rw [Hd2.out]; rfl
        rcases Bool.eq_false_or_eq_true (oddB x) with ho | ho
        · have Heq : Hid (quoteB x ≠ [x]) := Lib.hid (fun h => by rw [(quoteB_plain hx34 hx92).1 h] at ho; exact absurd ho (by decide))
          have HbadN := Lib.hid (Hbad.out (by rw [Hqk.out, Hd2.out, quo_odd ho]; rfl))
          clear hx34 hx92 ho
          have HWN : Hid (Below wr.heap.size wr wr) := Lib.hid (Below.refl _ _)
          have hcv1 : (convert 30 9 (.slice (some ⟨wr.heap.size, 0, none⟩) 1 1)).run Tryz.prog (wr.alloc (.cells #[.int .u8 (x.toNat : Nat)] 5)) = .ok (.string ⟨#[x]⟩) (wr.alloc (.cells #[.int .u8 (x.toNat : Nat)] 5)) := by
            exact str_of_bs (l := [x]) (Bs.of_block (heap_alloc_new wr _) (by simp) (by unfold maxLen; omega))
          go_wp2_with fail
          refine (quote_ref _ ⟨#[x]⟩ (by show (1 : Nat) ≤ 1048576; omega)).mono ?_
          rintro e wq ⟨rfl, hBq⟩
          have HWQ : Hid (Below wr.heap.size wr wq) := Lib.hid ((HWN.out.alloc HWN.out.size _).trans (hBq.mono (by have := HWN.out.size; first | (simp; done) | (simp; omega))))
          obtain ⟨Q, hQ⟩ : ∃ Q, Q = mkS (quoteL (toL ⟨#[x]⟩)) := ⟨_, rfl⟩
          rw [← hQ]
          have hQt : toL Q = quoteL [x] := by rw [hQ]; rfl
          have hcmp := cmp_of hQt hseg
          have hQz := quote_size hQt
          have z1 : IntKind.i64.wrap ((Q.size : Int) - 1) = (Q.size : Int) - 1 := IntWalk.i64_in _ (by omega)
          have z2 : (0 : Int) ≤ (Q.size : Int) - 1 := by omega
          have z3 : (1 : Int) ≤ (Q.size : Int) - 1 := by omega
          have z4 : (Q.size : Int) - 1 ≤ Q.size := by omega
          have z5 : ((Q.size : Int) - 1).toNat = Q.size - 1 := by omega
          have y1 : IntKind.i64.wrap ((j : Int) + 1) = (j : Int) + 1 := IntWalk.i64_in _ (by omega)
          have y2 : (0 : Int) ≤ (j : Int) + 1 := by omega
          have y3 : (j : Int) ≤ (j : Int) + 1 := by omega
          have y4 : (j : Int) + 1 ≤ s.size := by omega
          have y5 : ((j : Int) + 1).toNat = j + 1 := by omega
          have hcm : ((Q.extract 1 (Q.size - 1)).toList == (s.extract j (j + 1)).toList) = false := by
            exact hcmp.2 Heq.out
          clear hQt hcmp hcv1 hQ hBq
          go_wp2_with fail
          go_quiet (fail)
          clear z1 z2 z3 z4 z5 y1 y2 y3 y4 y5 hcm
          have HE := Lib.hid (HKO.out _ (below_drewN (HbB.out.trans (HWQ.out.mono hszw)) nq)).2
          go_wp2_with fail
          go_ret2
          exact wd_none HbadN.out HE.out
        · have Heq : Hid (quoteB x = [x]) := Lib.hid ((quoteB_plain hx34 hx92).2 ho)
          have Hstep : Hid (quotedK 0 ((toL s).drop (i + 1)) = (quotedK 0 ((toL s).drop (j + 1))).map (fun p => (bs ++ [x] ++ p.1, p.2))) := Lib.hid (by
            rw [Hqk.out, Hd2.out, quo_plain hx34 hx92 ho]
            cases quotedK 0 ((toL s).drop (j + 1)) <;> simp)
          clear hx34 hx92 ho
          have HWN : Hid (Below wr.heap.size wr wr) := Lib.hid (Below.refl _ _)
          have hcv1 : (convert 30 9 (.slice (some ⟨wr.heap.size, 0, none⟩) 1 1)).run Tryz.prog (wr.alloc (.cells #[.int .u8 (x.toNat : Nat)] 5)) = .ok (.string ⟨#[x]⟩) (wr.alloc (.cells #[.int .u8 (x.toNat : Nat)] 5)) := by
            exact str_of_bs (l := [x]) (Bs.of_block (heap_alloc_new wr _) (by simp) (by unfold maxLen; omega))
          go_wp2_with fail
          refine (quote_ref _ ⟨#[x]⟩ (by show (1 : Nat) ≤ 1048576; omega)).mono ?_
          rintro e wq ⟨rfl, hBq⟩
          have HWQ : Hid (Below wr.heap.size wr wq) := Lib.hid ((HWN.out.alloc HWN.out.size _).trans (hBq.mono (by have := HWN.out.size; first | (simp; done) | (simp; omega))))
          obtain ⟨Q, hQ⟩ : ∃ Q, Q = mkS (quoteL (toL ⟨#[x]⟩)) := ⟨_, rfl⟩
          rw [← hQ]
          have hQt : toL Q = quoteL [x] := by rw [hQ]; rfl
          have hcmp := cmp_of hQt hseg
          have hQz := quote_size hQt
          have z1 : IntKind.i64.wrap ((Q.size : Int) - 1) = (Q.size : Int) - 1 := IntWalk.i64_in _ (by omega)
          have z2 : (0 : Int) ≤ (Q.size : Int) - 1 := by omega
          have z3 : (1 : Int) ≤ (Q.size : Int) - 1 := by omega
          have z4 : (Q.size : Int) - 1 ≤ Q.size := by omega
          have z5 : ((Q.size : Int) - 1).toNat = Q.size - 1 := by omega
          have y1 : IntKind.i64.wrap ((j : Int) + 1) = (j : Int) + 1 := IntWalk.i64_in _ (by omega)
          have y2 : (0 : Int) ≤ (j : Int) + 1 := by omega
          have y3 : (j : Int) ≤ (j : Int) + 1 := by omega
          have y4 : (j : Int) + 1 ≤ s.size := by omega
          have y5 : ((j : Int) + 1).toNat = j + 1 := by omega
          have hcm : ((Q.extract 1 (Q.size - 1)).toList == (s.extract j (j + 1)).toList) = true := by
            exact hcmp.1 Heq.out
          clear hQt hcmp hcv1 hQ hBq
          go_wp2_with fail
          go_quiet (fail)
          clear z1 z2 z3 z4 z5 y1 y2 y3 y4 y5 hcm
          have HbZ := Lib.hid (HKB.out _ (below_drewN HWQ.out nq))
          have hszz : w0.heap.size ≤ (wq.drewN nq).heap.size := HbZ.out.2.size
          generalize wq.drewN nq = wz at *
          go_wp2_with (first | (at_builtin; refine wpList_append_own _ rfl _ _ 30 rfl w0.heap.size 5 k0 (.int .u8 0) 1 1 Tryz.underlying30 hk0 hy0 hy1 hy2 rfl (by omega) (.slice Bv bs.length bc) bs.length (u8s bs) rfl (HbZ.out.1.alloc _) ⟨wz.heap.size, 0, none⟩ 1 1 [.int .u8 (x.toNat : Nat)] rfl rfl (fun j v hv => World.news_of_block (w := wz.alloc _) (heap_alloc_new wz _) j v hv) (one_cell _) (by unfold maxLen; omega) (by omega) (by simp; omega) ?_))
          intro v1 wp hown1 hgrow1 _
          have Hfin : Hid (QIRel w0 (toL s) (i + 1) (.int .i64 ((j : Int) + 1)) v1 wp) := Lib.hid ⟨j + 1, bs ++ [x], by omega, by rw [toL_len]; omega, rfl, u8s_push (by exact hown1), (HbZ.out.2.alloc hszz _).grown hgrow1 (by simp; omega) (fun k hk => (own_blk HbZ.out.1 k hk).1), by simp; omega, Hstep.out⟩
          obtain ⟨Bv1, bc1, hv1, _, _, _, _⟩ := own_form hown1
          subst hv1
          clear hown1 hgrow1
          go_wp2_with fail
          exact ⟨Hfin.out, by simp [intOf]; omega⟩
    have n34 : ((c.toNat : Int) == 34) = false := by rw [beq_eq_false_iff_ne]; intro h; exact h34 (UInt8.toNat_inj.1 (by show c.toNat = 34; omega))
    have n34' : ((c.toNat : Int) != 34) = true := by unfold bne; rw [n34]; rfl
    go_wp2_with fail
    have Hfirst : Hid (wordL ((toL s).drop i) = wordL (c :: (toL s).drop (i + 1))) := Lib.hid (by rw [Hd.out])
    go_loop [5] (fun iv => RBRel (toL s) i iv) (fun iv => s.size - (intOf iv).toNat)
    case atStart => exact ⟨i, by omega, by rw [toL_len]; omega, rfl, fun j h1 h2 => by omega⟩
    case round =>
      obtain ⟨k, hik, hk, rfl, hok⟩ := hrel
      have Hok := Lib.hid hok
      clear hok
      rw [toL_len] at hk
      have hkr : (0 : Int) ≤ k := by omega
      have hikI : (i : Int) ≤ k := by omega
      have Hbare : Hid (∀ (he : k = (toL s).length ∨ bareB ((toL s).getD k 0) = false), ((toL s).drop i).takeWhile bareB = ((toL s).drop i).take (k - i) ∧ ((toL s).drop i).dropWhile bareB = (toL s).drop k) := Lib.hid (span_drop hik (by rw [toL_len]; exact hk) Hok.out)
      have Hraw0 : Hid (bareB c = true → rawW (c :: (toL s).drop (i + 1)) = some (((toL s).drop i).takeWhile bareB, ((toL s).drop i).dropWhile bareB)) := Lib.hid (fun h => by rw [rawW_cons, if_neg h34, if_pos h, Hd.out])
      by_cases hlt2 : k < s.size
      · have hkI : (k : Int) < s.size := by omega
        have hb2 := str_byte hlt2
        obtain ⟨x, hx⟩ : ∃ x, x = (toL s).getD k 0 := ⟨_, rfl⟩
        rw [← hx] at hb2 Hbare
        have Hx := Lib.hid hx
        clear hx
        rcases Bool.eq_false_or_eq_true (bareB x) with hbr | hbr
        ·
          have Hb := Lib.hid hbr
          have Hfin : Hid (RBRel (toL s) i (.int .i64 ((k : Int) + 1))) := Lib.hid ⟨k + 1, by omega, by rw [toL_len]; omega, rfl, fun j h1 h2 => by
            rcases Nat.lt_or_ge j k with h3 | h3
            · exact Hok.out j h1 h3
            · obtain rfl : j = k := by omega
              rw [← Hx.out]
              exact hbr⟩
          have hcall : Hid (∀ w, Calls Tryz.prog 41 #[.int .u8 (x.toNat : Nat)] w fun e w' => e = .returned (.bool true) ∧ w = w') := Lib.hid fun w => by have := bare_ref x w; rwa [hbr] at this
          clear hbr h32 h34 n32 n34 n34'
          go_wp2_with fail
          refine (hcall.out _).mono ?_
          rintro e w1 ⟨rfl, rfl⟩
          go_wp2_with fail
          exact ⟨Hfin.out, by simp [intOf]; omega⟩
        ·
          have hcall : Hid (∀ w, Calls Tryz.prog 41 #[.int .u8 (x.toNat : Nat)] w fun e w' => e = .returned (.bool false) ∧ w = w') := Lib.hid fun w => by have := bare_ref x w; rwa [hbr] at this
          obtain ⟨t1, t2⟩ := Hbare.out (.inr hbr)
          by_cases hki : k = i
          · have Hbad := Lib.hid (words_bad Hl.out (rwords_no Hq.out Hd.out h32 (wordL_raw (by rw [rawW_cons, if_neg h34, if_neg]; rw [Hc.out, ← hki, ← Hx.out, hbr]; decide))))
            have hkb : ((k : Int) == k) = true := by simp
            subst hki
            clear hbr h32 h34 n32 n34 n34' t1 t2
            go_wp2_with fail
            refine (hcall.out _).mono ?_
            rintro e w1 ⟨rfl, rfl⟩
            go_wp2_with fail
            go_ret2
            exact wd_none Hbad.out HB.out
          · have hkb : ((k : Int) == i) = false := by rw [beq_eq_false_iff_ne]; omega
            have hcb : bareB c = true := by rw [Hc.out]; exact Hok.out i (by omega) (by omega)
            have hikl : i < k := by omega
            have Hraw := Lib.hid (Hraw0.out hcb)
            rw [t1, t2] at Hraw
            have hkd := drop_getD (L := toL s) (i := k) (by rw [toL_len]; omega)
            rw [← Hx.out] at hkd
            by_cases hx32 : x = 32
            · have Hstep : Hid (wordsL (toL s) = (wordsL ((toL s).drop k)).map (fun l => (D ++ [s.extract i k]).map toL ++ l)) := Lib.hid (rwords_step Hq.out Hd.out h32 (wordL_of Hraw.out (.inr (by simp only; rw [hkd, hx32]; rfl))) (by rw [toL_extract]) rfl)
              subst hx32
              clear hbr h32 h34 n32 n34 n34' t1 t2 hkd hcb hki
              go_wp2_with fail
              refine (hcall.out _).mono ?_
              rintro e w1 ⟨rfl, rfl⟩
              go_wp2_with (first | (at_builtin; refine wpList_append_own _ rfl _ _ 25 rfl w.heap.size 9 i0 (.string ByteArray.empty) 1 16 Tryz.underlying25 hi0 hz0 hz1 hz2 rfl (by omega) (.slice Av D.length cv) D.length (txs D) rfl (Hown.out.alloc _) ⟨wr.heap.size, 0, none⟩ 1 1 [.string (s.extract i k)] rfl rfl (fun j v hv => World.news_of_block (w := wr.alloc _) (heap_alloc_new wr _) j v hv) (txs_one [(s.extract i k)]) (by unfold maxLen; omega) (by omega) (by simp; omega) ?_))
              intro v1 wp hown1 hgrow1 _
              have Hfin : Hid (RWRel w s v1 (.int .i64 (k : Int)) wp) := Lib.hid ⟨D ++ [s.extract i k], k, rfl, txs_push hown1, (HB.out.alloc hsz _).grown hgrow1 (by simp; omega) (fun k hk => (own_blk Hown.out k hk).1), by omega, by simp; omega, Hstep.out⟩
              obtain ⟨Av1, cv1, rfl, _, _, _, _⟩ := own_form hown1
              clear hown1 hgrow1
              go_wp2_with fail
              exact ⟨Hfin.out, by simp [intOf]; omega⟩
            · have Hbad := Lib.hid (words_bad Hl.out (rwords_no Hq.out Hd.out h32 (wordL_end Hraw.out (by
                simp only
                rw [hkd]
                rintro (h | h)
                · exact absurd h (by simp)
                · exact hx32 (by simpa using h)))))
              have x32 : ((x.toNat : Int) == 32) = false := by rw [beq_eq_false_iff_ne]; intro h; exact hx32 (UInt8.toNat_inj.1 (by show x.toNat = 32; omega))
              have x32' : ((x.toNat : Int) != 32) = true := by unfold bne; rw [x32]; rfl
              clear hbr h32 h34 n32 n34 n34' t1 t2 hkd hcb hki hx32
              go_wp2_with fail
              refine (hcall.out _).mono ?_
              rintro e w1 ⟨rfl, rfl⟩
              go_wp2_with fail
              go_ret2
              exact wd_none Hbad.out HB.out
      · have hkI : ¬ (k : Int) < s.size := by omega
        obtain rfl : k = s.size := by omega
        obtain ⟨t1, t2⟩ := Hbare.out (.inl (toL_len s).symm)
        have hkb : ((s.size : Int) == i) = false := by rw [beq_eq_false_iff_ne]; omega
        have hcb : bareB c = true := by rw [Hc.out]; exact Hok.out i (by omega) (by omega)
        have Hraw := Lib.hid (Hraw0.out hcb)
        rw [t1, t2] at Hraw
        have hkd : (toL s).drop s.size = [] := List.drop_eq_nil_of_le (by rw [toL_len]; omega)
        have Hstep : Hid (wordsL (toL s) = (wordsL ((toL s).drop s.size)).map (fun l => (D ++ [s.extract i s.size]).map toL ++ l)) := Lib.hid (rwords_step Hq.out Hd.out h32 (wordL_of Hraw.out (.inl hkd)) (by rw [toL_extract]) rfl)
        clear h32 h34 n32 n34 n34' t1 t2 hkd hcb
        go_wp2_with (first | (at_builtin; refine wpList_append_own _ rfl _ _ 25 rfl w.heap.size 9 i0 (.string ByteArray.empty) 1 16 Tryz.underlying25 hi0 hz0 hz1 hz2 rfl (by omega) (.slice Av D.length cv) D.length (txs D) rfl (Hown.out.alloc _) ⟨wr.heap.size, 0, none⟩ 1 1 [.string (s.extract i s.size)] rfl rfl (fun j v hv => World.news_of_block (w := wr.alloc _) (heap_alloc_new wr _) j v hv) (txs_one [(s.extract i s.size)]) (by unfold maxLen; omega) (by omega) (by simp; omega) ?_))
        intro v1 wp hown1 hgrow1 _
        have Hfin : Hid (RWRel w s v1 (.int .i64 (s.size : Int)) wp) := Lib.hid ⟨D ++ [s.extract i s.size], s.size, rfl, txs_push hown1, (HB.out.alloc hsz _).grown hgrow1 (by simp; omega) (fun k hk => (own_blk Hown.out k hk).1), by omega, by simp; omega, Hstep.out⟩
        obtain ⟨Av1, cv1, rfl, _, _, _, _⟩ := own_form hown1
        clear hown1 hgrow1
        go_wp2_with fail
        exact ⟨Hfin.out, by simp [intOf]; omega⟩
end Go.Proofs.YtlljjddgbilipaaGreatDoor
