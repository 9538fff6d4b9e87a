/-
  Which names may be: the package's.
-/
import Derived.Test.YtdmladdpbdcpjaaDoorArkValidR
import Derived.Test.YtdmladdpbdcpjaaDoorShelf
import Derived.Lib.SplitLaws
namespace Go.Proofs.YtdmladdpbdcpjaaDoor
open Go.RowKit

attribute [local go_sem] lt1 lt2 lt3 lt4 lt5 lt6

/-- the library's variable bytealg.MaxLen holds a number -/
def MaxL (w : World) : Prop := ∃ m : Int, w.cell? ⟨0, 0, none⟩ = some (.int .i64 m)
theorem MaxL.keep {w w' : World} (h : MaxL w) (hc : Cells w w') : MaxL w' := by
  obtain ⟨m, hm⟩ := h
  exact ⟨m, hc _ _ hm⟩
theorem MaxL.below {w w' : World} (h : MaxL w) (hb : Below w.heap.size w w') : MaxL w' := h.keep (Cells.of_below hb)
theorem splitK_pieces (c : UInt8) : ∀ (n : Nat) (l : List UInt8), l.length ≤ n → Lib.splitK [c] 0 (l.count c) l = pieces c l := by
  intro n
  induction n with
  | zero =>
    intro l hl
    obtain rfl : l = [] := List.eq_nil_of_length_eq_zero (by omega)
    rfl
  | succ n ih =>
    intro l hl
    by_cases hm : c ∈ l
    · have hi : Lib.indexByte l c ≠ -1 := fun h => by
        obtain ⟨k, hk, rfl⟩ := List.getElem_of_mem hm
        exact Lib.indexByte_none h k (List.getElem?_eq_getElem hk)
      obtain ⟨o, ho⟩ : ∃ o : Nat, Lib.indexByte l c = o := ⟨(Lib.indexByte l c).toNat, by have := Lib.indexByte_ge l c; omega⟩
      obtain ⟨h1, h2⟩ := Lib.indexByte_some ho
      have hol := (List.getElem?_eq_some_iff.1 h1).1
      have hn : c ∉ l.take o := fun hh => by
        obtain ⟨k, hk, hc⟩ := List.getElem_of_mem hh
        rw [List.length_take] at hk
        rw [List.getElem_take] at hc
        exact h2 k (by omega) (by rw [List.getElem?_eq_getElem (by omega), hc])
      have hd : l = l.take o ++ c :: l.drop (o + 1) := by
        conv => lhs; rw [← List.take_append_drop o l]
        congr 1
        rw [List.drop_eq_getElem_cons hol]
        congr 1
        exact (List.getElem?_eq_some_iff.1 h1).2
      have hcount : l.count c = (l.drop (o + 1)).count c + 1 := by
        conv => lhs; rw [hd]
        rw [List.count_append, List.count_eq_zero.2 hn, List.count_cons_self]
        omega
      have hix : Lib.index l [c] = o := by rw [Lib.index_one, ho]
      rw [hcount, Lib.splitK, hix, if_neg (by simp), Int.toNat_natCast, Nat.add_zero]
      rw [show o + [c].length = o + 1 from rfl, ih _ (by rw [List.length_drop]; omega)]
      conv => rhs; rw [hd, pieces_cut _ _ _ hn]
    · rw [List.count_eq_zero.2 hm, pieces_end _ _ hm]
      rfl
def slash : ByteArray := ⟨#[47]⟩
theorem split_pieces (s : ByteArray) : (Lib.splitB slash 0 (Lib.countB s slash) s).map toL = pieces 47 (toL s) := by
  have h := Lib.splitB_data slash 0 (Lib.countB s slash) s
  have hc : Lib.countB s slash = (toL s).count 47 := Lib.count_one 47 (toL s)
  rw [hc] at h ⊢
  exact h.trans (splitK_pieces 47 _ (toL s) (Nat.le_refl _))
theorem split_call (s : ByteArray) (w : World) (hl : s.size ≤ 1048576) (hm : MaxL w) : ∃ D : List ByteArray, D.map toL = pieces 47 (toL s) ∧
    Calls Tryd.prog 55 #[.string s, .string ⟨#[47]⟩] w fun e w' => e = .returned (.slice (some ⟨w.heap.size, 0, none⟩) D.length D.length) ∧ w' = w.alloc (.cells (txs D).toArray 9) := by
  obtain ⟨m, hm⟩ := hm
  refine ⟨Lib.splitB slash 0 (Lib.countB s slash) s, split_pieces s, ?_⟩
  have := Tryd.strings_Split s slash m w (by omega) hm (by decide)
  rw [Lib.splitB_all slash (by decide) 0 _ s rfl]
  exact this
def setB : ByteArray := ⟨#[92, 58, 42, 63, 34, 60, 62, 124]⟩
def setI (c : UInt8) : Int := Lib.indexByte setB.data.toList c
theorem setI_iff : ∀ n : Fin 256, decide (0 ≤ setI (UInt8.ofNat n)) = [92, 58, 42, 63, 34, 60, 62, 124].contains n.val := by decide +kernel
theorem setI_nat (c : UInt8) : decide (0 ≤ setI c) = [92, 58, 42, 63, 34, 60, 62, 124].contains c.toNat := by
  have := setI_iff ⟨c.toNat, c.toNat_lt⟩
  rwa [UInt8.ofNat_toNat] at this
theorem set_call (c : UInt8) (w : World) : Calls Tryd.prog 56 #[.string ⟨#[92, 58, 42, 63, 34, 60, 62, 124]⟩, .int .u8 (c.toNat : Nat)] w fun e w' => e = .returned (.int .i64 (setI c)) ∧ w = w' := by
  refine (Tryd.strings_IndexByte setB (c.toNat : Nat) w).mono fun e w' ⟨he, hw⟩ => ⟨?_, hw.symm⟩
  rw [he, Int.toNat_natCast, show c.toNat.toUInt8 = c from UInt8.ofNat_toNat]
  rfl

set_option maxHeartbeats 4000000 in
set_option maxRecDepth 100000 in
theorem valid_any (w : World) (s : ByteArray) (hl : s.size ≤ 1048576) (hm : MaxL w) :
    Calls Tryd.prog 26 #[.string s] w (ValidPost s w) := by
  by_cases h0 : toL s = []
  · have e : (s.toList == []) = true := by rw [toList_toL, h0]; rfl
    go_enter Tryd.func26, Tryd.ntmps26
    go_wp2_with fail
    go_ret
    exact ⟨bool_ret (by rw [h0]; rfl), Below.refl _ _⟩
  have e0 : (s.toList == []) = false := by rw [toList_toL]; exact beq_list h0
  have H0 := Lib.hid h0
  clear h0
  by_cases h200 : s.size ≤ 200
  case neg =>
    have hI : (200 : Int) < s.size := by omega
    go_enter Tryd.func26, Tryd.ntmps26
    go_wp2_with fail
    go_ret
    exact ⟨bool_ret (by unfold validName; rw [toL_len, decide_eq_false h200]; simp), Below.refl _ _⟩
  have hI : (s.size : Int) ≤ 200 := by omega
  obtain ⟨D, hD, hcut⟩ := split_call s w hl hm
  have hDl : D.length = (pieces 47 (toL s)).length := by rw [← hD, List.length_map]
  have hcells : Hid (∀ k, k < D.length → (w.alloc (.cells (txs D).toArray 9)).cell? ⟨w.heap.size, k, none⟩ = some (.string (D.getD k ⟨#[]⟩))) := Lib.hid fun k hk => ((blk_cells (heap_alloc_new w _)).1 k).trans (by
    unfold txs
    rw [List.getElem?_toArray, List.getElem?_map, List.getD_eq_getElem?_getD, List.getElem?_eq_getElem hk]
    rfl)
  have hpl : Hid (∀ k, k < D.length → (D.getD k ⟨#[]⟩).size ≤ s.size) := Lib.hid fun k hk => by
    have := pieces_le 47 (toL s) (toL (D.getD k ⟨#[]⟩)) (by
      rw [← hD]
      refine List.mem_map_of_mem ?_
      rw [List.getD_eq_getElem?_getD, List.getElem?_eq_getElem hk]
      exact List.getElem_mem _)
    rw [toL_len, toL_len] at this
    exact this
  have hDs : D.length ≤ 1048577 := by rw [hDl]; have := pieces_length 47 (toL s); rw [toL_len] at this; omega
  have HD := Lib.hid hD
  have HB : Hid (Below w.heap.size w (w.alloc (.cells (txs D).toArray 9))) := Lib.hid ((Below.refl _ _).alloc (Nat.le_refl _) _)
  clear hD hDl
  go_enter Tryd.func26, Tryd.ntmps26
  go_wp2_with fail
  refine hcut.mono ?_
  rintro e w1 ⟨rfl, hw1⟩
  rw [← hw1] at hcells HB
  have HP : Hid (∀ b, validName (toL s) = b → ValidPost s w (.returned (.bool b)) w1) := Lib.hid fun b hb => ⟨bool_ret hb, HB.out⟩
  clear HB
  clear hw1 hcut hm
  generalize w.heap.size = g at *
  go_wp2_with fail
  go_loop [17] (fun iv => ValidRel D iv) (fun iv => D.length - (intOf iv).toNat)
  case atStart => exact ⟨0, by omega, rfl, fun j hj => by omega⟩
  case round =>
    obtain ⟨k, hk, rfl, hok⟩ := hrel
    have Hok := Lib.hid hok
    clear hok
    have hkr : (0 : Int) ≤ k := by omega
    by_cases hlt : k < D.length
    · have hkI : (k : Int) < D.length := by omega
      have g1 := hcells.out k hlt
      have hxs := hpl.out k hlt
      have Hno := Lib.hid (valid_no HD.out hlt)
      have Hstep := Lib.hid (ValidRel.step hlt Hok.out)
      generalize D.getD k ⟨#[]⟩ = x at *
      rcases piece_of (toL x) with h | h | h | ⟨h, h1, h2, h3⟩ | ⟨h, h1, h2, h3, h4⟩ | ⟨h, h1, h2, h3, h4⟩
      · have e1 : (x.toList == []) = true := by rw [toList_toL, h]; rfl
        have Hf := Lib.hid (Hno.out (by rw [h]; rfl))
        clear h
        go_wp2_with fail
        go_ret
        exact HP.out _ Hf.out
      · have e1 : (x.toList == []) = false := by rw [toList_toL, h]; rfl
        have e2 : (x.toList == [46]) = true := by rw [toList_toL, h]; rfl
        have Hf := Lib.hid (Hno.out (by rw [h]; rfl))
        clear h
        go_wp2_with fail
        go_ret
        exact HP.out _ Hf.out
      · have e1 : (x.toList == []) = false := by rw [toList_toL, h]; rfl
        have e2 : (x.toList == [46]) = false := by rw [toList_toL, h]; rfl
        have e3 : (x.toList == [46, 46]) = true := by rw [toList_toL, h]; rfl
        have Hf := Lib.hid (Hno.out (by rw [h]; rfl))
        clear h
        go_wp2_with fail
        go_ret
        exact HP.out _ Hf.out
      all_goals
        have e1 : (x.toList == []) = false := by rw [toList_toL]; exact beq_list h
        have e2 : (x.toList == [46]) = false := by rw [toList_toL]; exact beq_list h1
        have e3 : (x.toList == [46, 46]) = false := by rw [toList_toL]; exact beq_list h2
        have hx0 : 0 < x.size := by rw [← toL_len]; exact List.length_pos_iff.2 h
        have hx0I : (0 : Int) < x.size := by omega
        have hx1I : (1 : Int) ≤ x.size := by omega
        have hxm : ((x.size : Int) - 1).toNat = x.size - 1 := by omega
        have hxn : (0 : Int) ≤ (x.size : Int) - 1 := by omega
        have hxk : (x.size : Int) - 1 < x.size := by omega
        have hb0 : ∀ hb, x[0]'hb = (toL x).getD 0 0 := fun hb => str_byte hb
        have hb1 : ∀ hb, x[x.size - 1]'hb = (toL x).getD (x.size - 1) 0 := fun hb => str_byte hb
      · have Hf := Lib.hid (Hno.out (ok_front h3))
        have hn : ((toL x).getD 0 0).toNat = 32 := by rw [h3]; rfl
        generalize (toL x).getD 0 0 = y at *
        clear h h1 h2 h3
        go_wp2_with fail
        go_ret
        exact HP.out _ Hf.out
      · have Hf := Lib.hid (Hno.out (ok_back h4))
        rw [toL_len] at h4
        have hn : ((toL x).getD (x.size - 1) 0).toNat = 32 := by rw [h4]; rfl
        have hn0 : ((((toL x).getD 0 0).toNat : Int) == 32) = false := by
          rw [beq_eq_false_iff_ne]; intro e; exact h3 (UInt8.toNat_inj.1 (by show _ = 32; omega))
        generalize (toL x).getD 0 0 = y at *
        generalize (toL x).getD (x.size - 1) 0 = z at *
        clear h h1 h2 h3 h4
        go_wp2_with fail
        go_ret
        exact HP.out _ Hf.out
      · have Hfine := Lib.hid (ok_fine h h1 h2 h3 h4)
        have Hbad : Hid (∀ j, j < x.size → badByte ((toL x).getD j 0) = true → validName (toL s) = false) := Lib.hid fun j hj hb => Hno.out (ok_bad (by rw [toL_len]; exact hj) hb)
        have hn0 : ((((toL x).getD 0 0).toNat : Int) == 32) = false := by
          rw [beq_eq_false_iff_ne]; intro e; exact h3 (UInt8.toNat_inj.1 (by show _ = 32; omega))
        have hn1 : ((((toL x).getD (x.size - 1) 0).toNat : Int) == 32) = false := by
          rw [toL_len] at h4
          rw [beq_eq_false_iff_ne]; intro e; exact h4 (UInt8.toNat_inj.1 (by show _ = 32; omega))
        generalize hy : (toL x).getD 0 0 = y at *
        generalize hz : (toL x).getD (x.size - 1) 0 = z at *
        clear h h1 h2 h3 h4 hy hz Hno
        go_wp2_with fail
        clear hb0 hb1 hn0 hn1
        go_loop [5] (fun iv => InRel (toL x) x.size iv) (fun iv => x.size - (intOf iv).toNat)
        case atStart => exact ⟨0, by omega, rfl, fun j hj => by omega⟩
        case round =>
          obtain ⟨q, hq, rfl, hgood⟩ := hrel
          have Hgood := Lib.hid hgood
          clear hgood
          have hqr : (0 : Int) ≤ q := by omega
          by_cases hql : q < x.size
          · have hqI : (q : Int) < x.size := by omega
            have hbq : ∀ hb, x[q]'hb = (toL x).getD q 0 := fun hb => str_byte hb
            have hbn := bad_nat ((toL x).getD q 0)
            have hbs := setI_nat ((toL x).getD q 0)
            have hbd := Hbad.out q hql
            have Hst := Lib.hid (InRel.step hql Hgood.out)
            have h256 := ((toL x).getD q 0).toNat_lt
            generalize (toL x).getD q 0 = c at *
            by_cases b1 : c.toNat < 32
            · have Hf := Lib.hid (hbd (by rw [hbn]; simp; omega))
              have hcI : (c.toNat : Int) < 32 := by omega
              clear hbn hbd hbs
              go_wp2_with fail
              go_ret
              exact HP.out _ Hf.out
            have hcI : (32 : Int) ≤ c.toNat := by omega
            by_cases b2 : 126 < c.toNat
            · have Hf := Lib.hid (hbd (by rw [hbn]; simp; omega))
              have hcJ : (126 : Int) < c.toNat := by omega
              clear hbn hbd hbs
              go_wp2_with fail
              go_ret
              exact HP.out _ Hf.out
            have hcJ : (c.toNat : Int) ≤ 126 := by omega
            have hsc := set_call c
            by_cases b3 : 0 ≤ setI c
            · have Hf := Lib.hid (hbd (by rw [hbn, ← hbs, decide_eq_true b3]; simp))
              clear hbn hbd hbs
              go_wp2_with (go_at_call 56; refine (hsc _).mono ?_; rintro e w2 ⟨rfl, rfl⟩)
              go_ret
              exact HP.out _ Hf.out
            · have Hf := Lib.hid (Hst.out (by rw [hbn, ← hbs, decide_eq_false b3]; simp; omega))
              clear hbn hbd hbs
              go_wp2_with (go_at_call 56; refine (hsc _).mono ?_; rintro e w2 ⟨rfl, rfl⟩)
              exact ⟨Hf.out, by simp [intOf]; omega⟩
          · obtain rfl : q = x.size := by omega
            have Hv := Lib.hid (Hstep.out (Hfine.out fun j hj => Hgood.out j (by rw [← toL_len]; exact hj)))
            go_wp2_with fail
            exact ⟨Hv.out, by simp [intOf]; omega⟩
    · obtain rfl : k = D.length := by omega
      have Hf := Lib.hid (valid_yes HD.out H0.out h200 Hok.out)
      go_wp2_with fail
      go_ret
      exact HP.out _ Hf.out
end Go.Proofs.YtdmladdpbdcpjaaDoor
