/-
  FsFull: the walk.
-/
import Derived.Test.YtaolddgnannojaaDoorFsFirst
namespace Go.Proofs.YtaolddgnannojaaDoor
open Go.RowKit Go.Maps

attribute [local go_sem] lt1 lt2 lt3 lt4 lt5 lt6

/-- the name of a number -/
def nmF (k : Nat) : ByteArray := ⟨#[102, UInt8.ofNat (97 + k % 26), UInt8.ofNat (97 + k / 26 % 26), UInt8.ofNat (97 + k / 676)]⟩
/-- as many files as that -/
structure FullS (q : Int) (k : Nat) (S : FsSt) : Prop where
  quota : S.quota = (min (max q 0) 67108864).toNat
  size : S.size = 0
  armed : S.armed = 0
  down : S.down = false
  many : Maps.size S.names = min k 4000
  no : ∀ j, k ≤ j → j < 17576 → nget S.names (nmF j) = 0
  one : 1 ≤ k → nget S.names (nmF 0) ≠ 0
def FullRel (w : World) (q : Int) (N : Nat) (p : Value) (dv iv : Value) (wr : World) : Prop :=
  ∃ k M S, k ≤ N ∧ iv = .int .i64 (k : Nat) ∧ dv = .int .i64 (min k 4000 : Nat) ∧ p = .pointer (some ⟨FsMem.fb M, 0, none⟩) ∧ FsUp (2 * k) wr M S ∧ FullS q k S ∧ Below w.heap.size w wr ∧ ∀ b, b ∈ M.own → w.heap.size ≤ b
theorem enc_small (x : Nat) (h : x < 128) : Utf8.encode (x : Int) = ⟨#[UInt8.ofNat x]⟩ := by
  unfold Utf8.encode
  have hv : Utf8.valid (x : Int) = true := by unfold Utf8.valid; simp; omega
  simp only [hv, if_true, Int.toNat_natCast, h]
theorem cat_nm (a b c : UInt8) : ((⟨#[102]⟩ ++ ⟨#[a]⟩ : ByteArray) ++ ⟨#[b]⟩ : ByteArray) ++ ⟨#[c]⟩ = (⟨#[102, a, b, c]⟩ : ByteArray) := by
  apply toL_inj
  simp [toL]
theorem nm_eq (k : Nat) (h : k < 17576) : (((⟨#[102]⟩ ++ Utf8.encode (97 + (k : Int) % 26) : ByteArray) ++ Utf8.encode (97 + (k : Int) / 26 % 26) : ByteArray) ++ Utf8.encode (97 + (k : Int) / 676) : ByteArray) = nmF k := by
  have e1 : (97 + (k : Int) % 26) = ((97 + k % 26 : Nat) : Int) := by omega
  have e2 : (97 + (k : Int) / 26 % 26) = ((97 + k / 26 % 26 : Nat) : Int) := by omega
  have e3 : (97 + (k : Int) / 676) = ((97 + k / 676 : Nat) : Int) := by omega
  rw [e1, e2, e3, enc_small _ (by omega), enc_small _ (by omega), enc_small _ (by omega), cat_nm]
  rfl
theorem u8_inj {a b : Nat} (ha : a < 256) (hb : b < 256) (h : UInt8.ofNat a = UInt8.ofNat b) : a = b := by
  have := congrArg UInt8.toNat h
  simp only [UInt8.toNat_ofNat'] at this
  omega
theorem nm_inj {j k : Nat} (hj : j < 17576) (hk : k < 17576) (h : nmF j = nmF k) : j = k := by
  unfold nmF at h
  simp only [ByteArray.mk.injEq, Array.mk.injEq, List.cons.injEq, true_and, and_true] at h
  obtain ⟨h1, h2, h3⟩ := h
  have := u8_inj (by omega) (by omega) h1
  have := u8_inj (by omega) (by omega) h2
  have := u8_inj (by omega) (by omega) h3
  omega
theorem nm_valid (k : Nat) (h : k < 17576) : validF (toL (nmF k)) = true := by
  have hb : ∀ x, x < 26 → ∀ c : UInt8, c = UInt8.ofNat (97 + x) → badByte c = false ∧ c ≠ 47 := by
    intro x hx c hc
    subst hc
    have key : ∀ x : Fin 26, badByte (UInt8.ofNat (97 + x.1)) = false ∧ UInt8.ofNat (97 + x.1) ≠ 47 := by decide
    exact key ⟨x, hx⟩
  obtain ⟨a, ha⟩ : ∃ a, a = UInt8.ofNat (97 + k % 26) := ⟨_, rfl⟩
  obtain ⟨b, hb'⟩ : ∃ b, b = UInt8.ofNat (97 + k / 26 % 26) := ⟨_, rfl⟩
  obtain ⟨c, hc⟩ : ∃ c, c = UInt8.ofNat (97 + k / 676) := ⟨_, rfl⟩
  have e : toL (nmF k) = [102, a, b, c] := by unfold nmF toL; rw [ha, hb', hc]
  obtain ⟨a1, a2⟩ := hb (k % 26) (by omega) a ha
  obtain ⟨b1, b2⟩ := hb (k / 26 % 26) (by omega) b hb'
  obtain ⟨c1, c2⟩ := hb (k / 676) (by omega) c hc
  rw [e]
  have f1 : badByte 102 = false := by decide
  have f2 : (102 : UInt8) ≠ 47 := by decide
  have hp : pieces 47 [102, a, b, c] = [[102, a, b, c]] := by simp [pieces, a2, b2, c2, f2]
  unfold validF
  rw [hp]
  simp [okPiece, a1, b1, c1, f1]
theorem no_zero {K : Nat} {S : FsSt} (h : FsGood K S) {s : ByteArray} (hs : nget S.names s = 0) : S.of s = none := by
  cases ho : S.of s with
  | none => rfl
  | some i =>
    unfold FsSt.of at ho
    rw [hs] at ho
    have := (h.inv.no0 ((S.idx_iff 0).1 ⟨i, ho⟩)).1
    omega
theorem full_step {K : Nat} {q : Int} {k : Nat} {S : FsSt} (h : FsGood K S) (hf : FullS q k S) (hk : k < 17576) : (S.write (nmF k) []).1 = (if k < 4000 then 0 else 4) ∧ FullS q (k + 1) (S.write (nmF k) []).2 := by
  have hno := no_zero h (hf.no k (Nat.le_refl _) hk)
  have hm : S.more (nmF k) 0 = (0, 1) := by unfold FsSt.more; rw [hno]; rfl
  have hfu : S.full 0 1 = decide (4000 ≤ k) := by
    unfold FsSt.full
    rw [hf.size, hf.many]
    have : decide ((S.quota : Int) - 0 < 0) = false := by simp
    rw [this, Bool.false_or]
    congr 1
    rw [eq_iff_iff]
    omega
  have hw : S.write (nmF k) [] = if 4000 ≤ k then (4, S) else (S.wrErr, S.wrote (S.tick.write1 (nmF k) [] 0)) := by
    unfold FsSt.write
    rw [if_neg (by rw [hf.down]; simp), if_pos (nm_valid k hk)]
    have hm' : S.more (nmF k) ([] : List UInt8).length = (0, 1) := hm
    rw [hm', hfu]
    by_cases h4 : 4000 ≤ k
    · rw [if_pos (by simpa using h4), if_pos h4]
    · rw [if_neg (by simpa using h4), if_neg h4]
  rw [hw]
  by_cases h4 : 4000 ≤ k
  · rw [if_pos h4, if_neg (by omega)]
    refine ⟨rfl, hf.quota, hf.size, hf.armed, hf.down, ?_, fun j hj => hf.no j (by omega), fun _ => hf.one (by omega)⟩
    have := hf.many
    show Maps.size S.names = _
    omega
  · rw [if_neg h4, if_pos (by omega)]
    have ha : S.wrErr = 0 := by unfold FsSt.wrErr; rw [hf.armed]; rfl
    have hs2 : S.wrote (S.tick.write1 (nmF k) [] 0) = (S.tick.write1 (nmF k) [] 0).stepped := by unfold FsSt.wrote; rw [hf.armed]; rfl
    rw [hs2]
    have hD := h.dn
    have hnh : has S.names (sk (nmF k)) = false := by
      cases hh : has S.names (sk (nmF k)) with
      | false => rfl
      | true => exact absurd (hf.no k (Nat.le_refl _) hk) ((hD.has_iff _).1 hh)
    refine ⟨ha, hf.quota, ?_, ?_, hf.down, ?_, fun j hj hj2 => ?_, fun _ => ?_⟩
    · show S.size + 0 = 0
      rw [hf.size]
      rfl
    · show S.armed - 1 = 0
      rw [hf.armed]
    · show Maps.size (S.names.put (sk (nmF k)) (nval (S.last + 1))) = _
      rw [size_put hD.tidy, hnh, hf.many]
      simp
      omega
    · show nget (S.names.put (sk (nmF k)) (nval (S.last + 1))) (nmF j) = 0
      rw [nget_put hD.tidy.isMap, if_neg, hf.no j (by omega) hj2]
      intro e
      have := nm_inj hj2 hk e
      omega
    · show nget (S.names.put (sk (nmF k)) (nval (S.last + 1))) (nmF 0) ≠ 0
      rw [nget_put hD.tidy.isMap]
      split
      · omega
      · rename_i hne
        refine hf.one ?_
        rcases Nat.eq_zero_or_pos k with h0 | h0
        · subst h0
          exact absurd rfl hne
        · exact h0
theorem full_end {K : Nat} {q : Int} {k : Nat} {S : FsSt} (h : FsGood K S) (hf : FullS q k S) (hk : 1 ≤ k) (b : List UInt8) : (S.append (nmF 0) b).1 = (if b.length ≤ S.quota then 0 else 4) := by
  obtain ⟨i, hi⟩ := h.inv.names.has _ (hf.one hk)
  have ho : S.of (nmF 0) = some i := hi
  unfold FsSt.append
  rw [if_neg (by rw [hf.down]; simp), ho]
  simp only
  have hfu : S.full b.length 0 = decide (S.quota < b.length) := by
    unfold FsSt.full
    rw [hf.size, hf.many]
    have : decide ((4000 : Int) - ((min k 4000 : Nat) : Int) < 0) = false := by
      rw [decide_eq_false_iff_not]
      omega
    rw [this, Bool.or_false]
    congr 1
    rw [eq_iff_iff]
    omega
  rw [hfu]
  by_cases hq : b.length ≤ S.quota
  · rw [if_neg (by simp; omega), if_pos hq]
    unfold FsSt.wrErr
    rw [hf.armed]
    rfl
  · rw [if_pos (by simp; omega), if_neg hq]
theorem append_names (S : FsSt) (name : ByteArray) (d : List UInt8) : (S.append name d).2.names = S.names := by
  unfold FsSt.append
  split
  · rfl
  split
  · rfl
  · split
    · rfl
    · unfold FsSt.wrote
      split <;> rfl
set_option maxHeartbeats 8000000 in
set_option maxRecDepth 100000 in
theorem full_law (w : World) (hm : MaxL w) (q n : Int) (A : Option Addr) (c : Nat) (d : List UInt8) (hb : Bs w A c d) (hn : -9223372036854775808 ≤ n ∧ n ≤ 9223372036854775807) :
    Calls Tryd.prog 3 #[.int .i64 q, .int .i64 n, .slice A d.length c] w fun e w' => e = .returned (.bool true) ∧ Below w.heap.size w w' := by
  have HM := Lib.hid hm
  have HB := Lib.hid hb
  clear hm hb
  by_cases hd : 100 < d.length
  · have hdI : (100 : Int) < d.length := by omega
    go_enter Tryd.func3, Tryd.ntmps3
    go_wp2_with fail
    refine (first_any w HM.out).mono ?_
    rintro e w1 ⟨rfl, hb1⟩
    have Hb1 := Lib.hid hb1
    clear hb1
    go_wp2_with fail
    go_ret
    exact ⟨rfl, Hb1.out⟩
  · have hdI : ¬ (100 : Int) < d.length := by omega
    obtain ⟨N, hN, hN1, hN2⟩ : ∃ N : Nat, wrap64 (3998 + (wrap64 (n.tmod 5 + 5)).tmod 5) = (N : Int) ∧ 3998 ≤ N ∧ N ≤ 4002 := by
      have t1 := Int.tmod_lt_of_pos n (show (0 : Int) < 5 by decide)
      have t2 := Int.lt_tmod_of_pos n (show (0 : Int) < 5 by decide)
      have t3 : wrap64 (n.tmod 5 + 5) = n.tmod 5 + 5 := by unfold wrap64; omega
      rw [t3]
      have t4 := Int.tmod_lt_of_pos (n.tmod 5 + 5) (show (0 : Int) < 5 by decide)
      have t5 := Int.tmod_nonneg (a := n.tmod 5 + 5) 5 (by omega)
      have t6 : wrap64 (3998 + (n.tmod 5 + 5).tmod 5) = 3998 + (n.tmod 5 + 5).tmod 5 := by unfold wrap64; omega
      exact ⟨(3998 + (n.tmod 5 + 5).tmod 5).toNat, by rw [t6]; omega, by omega, by omega⟩
    go_enter Tryd.func3, Tryd.ntmps3
    go_wp2_with fail
    refine (first_any w HM.out).mono ?_
    rintro e w1 ⟨rfl, hb1⟩
    have Hb1 := Lib.hid hb1
    clear hb1
    go_wp2_with fail
    refine (up_new w1 (HM.out.below Hb1.out) q).mono ?_
    rintro e w2 ⟨M, rfl, h2, hb2, ho2⟩
    have H2 := Lib.hid h2
    have Hb2 := Lib.hid (And.intro hb2 ho2)
    clear h2 hb2 ho2
    go_wp2_with fail
    have hfull0 : FullS q 0 (newS q) := ⟨rfl, rfl, rfl, rfl, rfl, fun j _ _ => rfl, by omega⟩
    have Hrel0 : Hid (FullRel w1 q N (.pointer (some ⟨M.fb, 0, none⟩)) (.int .i64 0) (.int .i64 0) w2) := Lib.hid ⟨0, M, newS q, by omega, rfl, rfl, rfl, H2.out, hfull0, Hb2.out.1, Hb2.out.2⟩
    generalize M.fb = fb at *
    clear hfull0 H2 Hb2 hN
    go_loopw [9, 10] (fun dv iv wr => FullRel w1 q N (.pointer (some ⟨fb, 0, none⟩)) dv iv wr) (fun _ iv _ => N - (intOf iv).toNat)
    case atStart => exact Hrel0.out
    case round =>
      clear Hrel0
      obtain ⟨k, M, S, hk, rfl, rfl, hp, hup, hfs, hbl, hown⟩ := hrel
      simp only [Value.pointer.injEq, Option.some.injEq, Addr.mk.injEq, and_true] at hp
      subst hp
      have Hup := Lib.hid hup
      have Hfs := Lib.hid hfs
      have Hbl := Lib.hid (And.intro hbl hown)
      clear hup hfs hbl hown
      obtain ⟨dn, hdn⟩ : ∃ dn, dn = min k 4000 := ⟨_, rfl⟩
      rw [← hdn]
      have Hdn := Lib.hid hdn
      clear hdn
      by_cases hkN : k < N
      · have hkI : (k : Int) < N := by omega
        have z1 : ∀ r : Int, ¬ 9223372036854775807 < 1 + (Utf8.encode r).size := fun r => by have := encode_size_le r; omega
        have z2 : ∀ r t : Int, ¬ 9223372036854775807 < 1 + (Utf8.encode r).size + (Utf8.encode t).size := fun r t => by have := encode_size_le r; have := encode_size_le t; omega
        have z3 : ∀ r t u : Int, ¬ 9223372036854775807 < 1 + (Utf8.encode r).size + (Utf8.encode t).size + (Utf8.encode u).size := fun r t u => by have := encode_size_le r; have := encode_size_le t; have := encode_size_le u; omega
        have Hnm := Lib.hid (nm_eq k (by omega))
        obtain ⟨hr1, hf1⟩ := full_step Hup.out.good Hfs.out (show k < 17576 by omega)
        have Hr1 := Lib.hid hr1
        have Hf1 := Lib.hid hf1
        clear hr1 hf1
        go_wp2_with fail
        rw [Hnm.out]
        refine (up_write Hup.out (nmF k) (by show 4 ≤ 1048576; omega) [] (by show 2 * k + 2 + 0 ≤ 1048576; omega) none 0 (Bs.none_ _) (fun _ a ha => by cases ha)).mono ?_
        rintro e w3 ⟨rfl, M3, h3, g3⟩
        rw [Hr1.out]
        have hab := g3.above Hbl.out.1 Hbl.out.2
        have Hup3 := Lib.hid (show FsUp (2 * (k + 1)) w3 M3 _ from h3.mono (show 2 * k + 2 + 0 ≤ 2 * (k + 1) by omega))
        have Hfb := Lib.hid g3.fb
        have Hab := Lib.hid hab
        clear h3 g3 hab
        by_cases h4 : k < 4000
        · have h4I : (k : Int) < 4000 := by omega
          rw [if_pos h4]
          have Hfin : Hid (FullRel w1 q N (.pointer (some ⟨M.fb, 0, none⟩)) (.int .i64 ((dn : Int) + 1)) (.int .i64 ((k : Int) + 1)) w3) := Lib.hid ⟨k + 1, M3, _, by omega, rfl, by rw [show min (k + 1) 4000 = dn + 1 by have := Hdn.out; omega]; rfl, by rw [Hfb.out], Hup3.out, Hf1.out, Hab.out⟩
          have hdn9 : dn ≤ 4000 := by have := Hdn.out; omega
          clear z1 z2 z3
          go_wp2_with fail
          refine (num_any _ _).mono ?_
          rintro e w4 ⟨rfl, rfl⟩
          go_wp2_with fail
          refine (num_any _ _).mono ?_
          rintro e w5 ⟨rfl, rfl⟩
          go_wp2_with fail
          go_roundw
          case rel => exact Hfin.out
          case measure => simp [intOf]; omega
        · have h4I : ¬ (k : Int) < 4000 := by omega
          rw [if_neg h4]
          have Hfin : Hid (FullRel w1 q N (.pointer (some ⟨M.fb, 0, none⟩)) (.int .i64 (dn : Int)) (.int .i64 ((k : Int) + 1)) w3) := Lib.hid ⟨k + 1, M3, _, by omega, rfl, by rw [show min (k + 1) 4000 = dn by have := Hdn.out; omega], by rw [Hfb.out], Hup3.out, Hf1.out, Hab.out⟩
          clear z1 z2 z3
          go_wp2_with fail
          refine (num_any _ _).mono ?_
          rintro e w4 ⟨rfl, rfl⟩
          go_wp2_with fail
          refine (num_any _ _).mono ?_
          rintro e w5 ⟨rfl, rfl⟩
          go_wp2_with fail
          go_roundw
          case rel => exact Hfin.out
          case measure => simp [intOf]; omega
      · have hkI : ¬ (k : Int) < N := by omega
        obtain rfl : k = N := by omega
        have hend := full_end Hup.out.good Hfs.out (show 1 ≤ k by omega) d
        have hq := Hfs.out.quota
        have hqI : min (max q 0) 67108864 = (S.quota : Int) := by rw [hq]; omega
        have Hend := Lib.hid hend
        have hbd := HB.out.keep (Cells.of_below Hb1.out)
        have hbw := hbd.keep (Cells.of_below Hbl.out.1)
        have hnmz : nmF 0 = ⟨#[102, 97, 97, 97]⟩ := by decide
        have Hbw := Lib.hid hbw
        have Hnmz := Lib.hid hnmz
        clear hend hq hbd hbw hnmz
        go_wp2_with fail
        refine (up_append Hup.out (nmF 0) (by show 4 ≤ 1048576; omega) d (by omega) A c Hbw.out (fun hdl a ha hh => by
          have h9 := Hbl.out.2 _ hh
          obtain ⟨bb, oo, hA, hc⟩ := HB.out.cells hdl
          rw [ha] at hA
          cases hA
          have h10 := World.block_lt_of_cell? w ⟨bb, oo + 0, none⟩ ((hc 0 (by omega)).trans (u8s_at hdl))
          have h11 := Hb1.out.size
          simp only at h9 h10
          omega)).mono ?_
        rintro e w3 ⟨rfl, M3, h3, g3⟩
        rw [Hend.out]
        have hab := g3.above Hbl.out.1 Hbl.out.2
        by_cases hfit : d.length ≤ S.quota
        · have hfI : (d.length : Int) ≤ S.quota := by omega
          rw [if_pos hfit]
          have Hab := Lib.hid hab
          have H3 := Lib.hid h3
          have hll := listed_all (S.append (nmF 0) d).2
          have hkl : (keysOf (S.append (nmF 0) d).2.names).length = dn := by
            rw [keysOf_len H3.out.good.dn, append_names, Hfs.out.many]
            exact Hdn.out.symm
          have Hll := Lib.hid hll
          have Hkl := Lib.hid hkl
          rw [show M.fb = M3.fb from g3.fb.symm]
          clear hab h3 g3 hll hkl
          go_wp2_with fail
          refine (list_any w3 M3 _ _ H3.out.at_ H3.out.good.inv (by omega) ⟨#[]⟩ (by decide)).mono ?_
          rintro e w4 ⟨v, rfl, hrow, hb4⟩
          rw [Hll.out, Hkl.out] at hrow
          obtain ⟨A4, c4, hv⟩ := own_formT hrow
          subst hv
          have Hb4 := Lib.hid (Hb1.out.trans ((Hab.out.1.trans (hb4.mono Hab.out.1.size)).mono Hb1.out.size))
          clear hrow hb4
          go_wp2_with fail
          refine (num_any _ _).mono ?_
          rintro e w5 ⟨rfl, rfl⟩
          go_wp2_with fail
          go_ret
          exact ⟨rfl, Hb4.out⟩
        · have hfI : ¬ (d.length : Int) ≤ S.quota := by omega
          rw [if_neg hfit]
          have Hab := Lib.hid hab
          have H3 := Lib.hid h3
          have hll := listed_all (S.append (nmF 0) d).2
          have hkl : (keysOf (S.append (nmF 0) d).2.names).length = dn := by
            rw [keysOf_len H3.out.good.dn, append_names, Hfs.out.many]
            exact Hdn.out.symm
          have Hll := Lib.hid hll
          have Hkl := Lib.hid hkl
          rw [show M.fb = M3.fb from g3.fb.symm]
          clear hab h3 g3 hll hkl
          go_wp2_with fail
          refine (list_any w3 M3 _ _ H3.out.at_ H3.out.good.inv (by omega) ⟨#[]⟩ (by decide)).mono ?_
          rintro e w4 ⟨v, rfl, hrow, hb4⟩
          rw [Hll.out, Hkl.out] at hrow
          obtain ⟨A4, c4, hv⟩ := own_formT hrow
          subst hv
          have Hb4 := Lib.hid (Hb1.out.trans ((Hab.out.1.trans (hb4.mono Hab.out.1.size)).mono Hb1.out.size))
          clear hrow hb4
          go_wp2_with fail
          refine (num_any _ _).mono ?_
          rintro e w5 ⟨rfl, rfl⟩
          go_wp2_with fail
          refine (num_any _ _).mono ?_
          rintro e w6 ⟨rfl, rfl⟩
          go_wp2_with fail
          go_ret
          exact ⟨rfl, Hb4.out⟩
end Go.Proofs.YtaolddgnannojaaDoor
