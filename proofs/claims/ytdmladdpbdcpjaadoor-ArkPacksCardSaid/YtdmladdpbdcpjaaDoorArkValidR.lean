/-
  Which names may be: the reference's.
-/
import Derived.Test.YtdmladdpbdcpjaaDoorArkNmA
namespace Go.Proofs.YtdmladdpbdcpjaaDoor
open Go.RowKit

attribute [local go_sem] lt1 lt2 lt3 lt4 lt5 lt6

/-! ### a name's tests, as the walk has them -/
theorem toList_toL (s : ByteArray) : s.toList = toL s := Lib.toList_data s
theorem toL_nil {s : ByteArray} (h : toL s = []) : s = ⟨#[]⟩ := toL_inj h
/-- how a piece falls -/
inductive Piece (x : List UInt8) : Prop
  | none (h : x = [])
  | dot (h : x = [46])
  | dots (h : x = [46, 46])
  | front (h : x ≠ []) (h1 : x ≠ [46]) (h2 : x ≠ [46, 46]) (h3 : x.getD 0 0 = 32)
  | back (h : x ≠ []) (h1 : x ≠ [46]) (h2 : x ≠ [46, 46]) (h3 : x.getD 0 0 ≠ 32) (h4 : x.getD (x.length - 1) 0 = 32)
  | fine (h : x ≠ []) (h1 : x ≠ [46]) (h2 : x ≠ [46, 46]) (h3 : x.getD 0 0 ≠ 32) (h4 : x.getD (x.length - 1) 0 ≠ 32)
theorem piece_of (x : List UInt8) : Piece x := by
  by_cases h : x = []
  · exact .none h
  by_cases h1 : x = [46]
  · exact .dot h1
  by_cases h2 : x = [46, 46]
  · exact .dots h2
  by_cases h3 : x.getD 0 0 = 32
  · exact .front h h1 h2 h3
  by_cases h4 : x.getD (x.length - 1) 0 = 32
  · exact .back h h1 h2 h3 h4
  · exact .fine h h1 h2 h3 h4
/-- how a byte falls -/
theorem byte_of (n : Nat) (hn : n < 256) : n < 32 ∨ (32 ≤ n ∧ 126 < n) ∨ n = 92 ∨ n = 58 ∨ n = 42 ∨ n = 63 ∨ n = 34 ∨ n = 60 ∨ n = 62 ∨ n = 124 ∨ (32 ≤ n ∧ n ≤ 126 ∧ n ≠ 92 ∧ n ≠ 58 ∧ n ≠ 42 ∧ n ≠ 63 ∧ n ≠ 34 ∧ n ≠ 60 ∧ n ≠ 62 ∧ n ≠ 124) := by omega
theorem bad_iff : ∀ n : Fin 256, badByte (UInt8.ofNat n) = (decide (n.val < 32) || decide (126 < n.val) || [92, 58, 42, 63, 34, 60, 62, 124].contains n.val) := by decide +kernel
theorem bad_nat (c : UInt8) : badByte c = (decide (c.toNat < 32) || decide (126 < c.toNat) || [92, 58, 42, 63, 34, 60, 62, 124].contains c.toNat) := by
  have := bad_iff ⟨c.toNat, c.toNat_lt⟩
  rwa [UInt8.ofNat_toNat] at this
def ValidRel (D : List ByteArray) (iv : Value) : Prop := ∃ k, k ≤ D.length ∧ iv = .int .i64 (k : Nat) ∧ ∀ j, j < k → okPiece (toL (D.getD j ⟨#[]⟩)) = true
def InRel (x : List UInt8) (n : Nat) (iv : Value) : Prop := ∃ k, k ≤ n ∧ iv = .int .i64 (k : Nat) ∧ ∀ j, j < k → badByte (x.getD j 0) = false
theorem ValidRel.step {D : List ByteArray} {k : Nat} (hk : k < D.length) (h : ∀ j, j < k → okPiece (toL (D.getD j ⟨#[]⟩)) = true) (h1 : okPiece (toL (D.getD k ⟨#[]⟩)) = true) : ValidRel D (.int .i64 ((k : Int) + 1)) :=
  ⟨k + 1, by omega, rfl, fun j hj => by rcases Nat.lt_or_ge j k with h2 | h2; exact h j h2; obtain rfl : j = k := by omega
                                        exact h1⟩
theorem InRel.step {x : List UInt8} {n k : Nat} (hk : k < n) (h : ∀ j, j < k → badByte (x.getD j 0) = false) (h1 : badByte (x.getD k 0) = false) : InRel x n (.int .i64 ((k : Int) + 1)) :=
  ⟨k + 1, by omega, rfl, fun j hj => by rcases Nat.lt_or_ge j k with h2 | h2; exact h j h2; obtain rfl : j = k := by omega
                                        exact h1⟩
def ValidPost (s : ByteArray) (w : World) (e : Ending) (w' : World) : Prop := e = .returned (.bool (validName (toL s))) ∧ Below w.heap.size w w'
theorem bool_ret {a b : Bool} (h : b = a) : Ending.returned (.bool a) = .returned (.bool b) := by rw [h]
theorem valid_no {s : ByteArray} {D : List ByteArray} (hD : D.map toL = pieces 47 (toL s)) {k : Nat} (hk : k < D.length) (h : okPiece (toL (D.getD k ⟨#[]⟩)) = false) : validName (toL s) = false := by
  unfold validName
  have hm : toL (D.getD k ⟨#[]⟩) ∈ pieces 47 (toL s) := by
    rw [← hD]
    refine List.mem_map_of_mem ?_
    rw [List.getD_eq_getElem?_getD, List.getElem?_eq_getElem hk]
    exact List.getElem_mem _
  have : (pieces 47 (toL s)).all okPiece = false := by
    rw [List.all_eq_false]
    exact ⟨_, hm, by rw [h]; simp⟩
  rw [this, Bool.and_false]
theorem valid_yes {s : ByteArray} {D : List ByteArray} (hD : D.map toL = pieces 47 (toL s)) (h1 : toL s ≠ []) (h2 : s.size ≤ 200) (h : ∀ j, j < D.length → okPiece (toL (D.getD j ⟨#[]⟩)) = true) : validName (toL s) = true := by
  unfold validName
  rw [← hD]
  simp only [Bool.and_eq_true, bne_iff_ne, decide_eq_true_eq, List.all_eq_true, List.mem_map, forall_exists_index, and_imp, forall_apply_eq_imp_iff₂]
  refine ⟨⟨h1, by rw [toL_len]; exact h2⟩, fun x hx => ?_⟩
  obtain ⟨j, hj, rfl⟩ := List.getElem_of_mem hx
  have := h j hj
  rwa [List.getD_eq_getElem?_getD, List.getElem?_eq_getElem hj] at this
theorem ok_none : okPiece [] = false := rfl
theorem ok_dot : okPiece [46] = false := rfl
theorem ok_dots : okPiece [46, 46] = false := rfl
theorem ok_front {x : List UInt8} (h : x.getD 0 0 = 32) : okPiece x = false := by unfold okPiece; rw [h]; simp
theorem ok_back {x : List UInt8} (h : x.getD (x.length - 1) 0 = 32) : okPiece x = false := by unfold okPiece; rw [h]; simp
theorem ok_bad {x : List UInt8} {k : Nat} (hk : k < x.length) (h : badByte (x.getD k 0) = true) : okPiece x = false := by
  unfold okPiece
  have : x.all (fun c => !badByte c) = false := by
    rw [List.all_eq_false]
    refine ⟨x[k], List.getElem_mem _, ?_⟩
    rw [List.getD_eq_getElem?_getD, List.getElem?_eq_getElem hk] at h
    simpa using h
  rw [this, Bool.and_false]
theorem ok_fine {x : List UInt8} (h : x ≠ []) (h1 : x ≠ [46]) (h2 : x ≠ [46, 46]) (h3 : x.getD 0 0 ≠ 32) (h4 : x.getD (x.length - 1) 0 ≠ 32) (h5 : ∀ j, j < x.length → badByte (x.getD j 0) = false) : okPiece x = true := by
  unfold okPiece
  have : x.all (fun c => !badByte c) = true := by
    rw [List.all_eq_true]
    intro c hc
    obtain ⟨j, hj, rfl⟩ := List.getElem_of_mem hc
    have := h5 j hj
    rw [List.getD_eq_getElem?_getD, List.getElem?_eq_getElem hj] at this
    simpa using this
  rw [this]
  simp only [Bool.and_eq_true, bne_iff_ne, and_true]
  exact ⟨⟨⟨⟨h, h1⟩, h2⟩, h3⟩, h4⟩
theorem beq_list {a b : List UInt8} (h : a ≠ b) : (a == b) = false := beq_eq_false_iff_ne.2 h

set_option maxHeartbeats 4000000 in
set_option maxRecDepth 100000 in
theorem valid_ref (w : World) (s : ByteArray) (hl : s.size ≤ 1048576) :
    Calls Tryd.prog 27 #[.string s] w (ValidPost s w) := by
  by_cases h0 : toL s = []
  · have e : (s.toList == []) = true := by rw [toList_toL, h0]; rfl
    go_enter Tryd.func27, Tryd.ntmps27
    go_wp2_with fail
    go_ret
    exact ⟨bool_ret (by rw [h0]; rfl), Below.refl _ _⟩
  have e0 : (s.toList == []) = false := by rw [toList_toL]; exact beq_list h0
  have H0 := Lib.hid h0
  clear h0
  by_cases h200 : s.size ≤ 200
  case neg =>
    have hI : (200 : Int) < s.size := by omega
    go_enter Tryd.func27, Tryd.ntmps27
    go_wp2_with fail
    go_ret
    exact ⟨bool_ret (by unfold validName; rw [toL_len, decide_eq_false h200]; simp), Below.refl _ _⟩
  have hI : (s.size : Int) ≤ 200 := by omega
  have hcut : Calls Tryd.prog 57 #[.string s, .int .u8 47] w (CutPost w s 47) := cut_ref w s 47 hl
  go_enter Tryd.func27, Tryd.ntmps27
  go_wp2_with fail
  refine hcut.mono ?_
  rintro e w1 ⟨D, v, hD, rfl, hown, hB⟩
  obtain ⟨Av, cv, rfl, hnil, hsome, hcap, _⟩ := own_form hown
  have hDl : D.length = (pieces 47 (toL s)).length := by rw [← hD, List.length_map]
  have hDp : 0 < D.length := by rw [hDl]; exact List.length_pos_iff.2 (pieces_ne _ _)
  cases Av with
  | none => have := (hnil rfl).1; omega
  | some a =>
  obtain ⟨g, rfl⟩ := hsome a rfl
  have hcells : Hid (∀ k, k < D.length → w1.cell? ⟨g, k, none⟩ = some (.string (D.getD k ⟨#[]⟩))) := Lib.hid fun k hk => own_cell hown (by
    unfold txs
    rw [List.getElem?_map, List.getD_eq_getElem?_getD, List.getElem?_eq_getElem hk]
    rfl)
  have hpl : Hid (∀ k, k < D.length → (D.getD k ⟨#[]⟩).size ≤ s.size) := Lib.hid fun k hk => by
    have := pieces_le 47 (toL s) (toL (D.getD k ⟨#[]⟩)) (by
      rw [← hD]
      refine List.mem_map_of_mem ?_
      rw [List.getD_eq_getElem?_getD, List.getElem?_eq_getElem hk]
      exact List.getElem_mem _)
    rw [toL_len, toL_len] at this
    exact this
  have hDs : D.length ≤ 1048577 := by rw [hDl]; have := pieces_length 47 (toL s); rw [toL_len] at this; omega
  have HD := Lib.hid hD
  have HB := Lib.hid hB
  clear hD hB hown hcut hnil hsome hDl
  go_wp2_with fail
  go_loop [4] (fun iv => ValidRel D iv) (fun iv => D.length - (intOf iv).toNat)
  case atStart => exact ⟨0, by omega, rfl, fun j hj => by omega⟩
  case round =>
    obtain ⟨k, hk, rfl, hok⟩ := hrel
    have Hok := Lib.hid hok
    clear hok
    have hkr : (0 : Int) ≤ k := by omega
    by_cases hlt : k < D.length
    · have hkI : (k : Int) < D.length := by omega
      have hkc : (k : Int) < cv := by omega
      have g1 := hcells.out k hlt
      have hxs := hpl.out k hlt
      have Hno := Lib.hid (valid_no HD.out hlt)
      have Hstep := Lib.hid (ValidRel.step hlt Hok.out)
      generalize D.getD k ⟨#[]⟩ = x at *
      rcases piece_of (toL x) with h | h | h | ⟨h, h1, h2, h3⟩ | ⟨h, h1, h2, h3, h4⟩ | ⟨h, h1, h2, h3, h4⟩
      · have e1 : (x.toList == []) = true := by rw [toList_toL, h]; rfl
        have Hf := Lib.hid (Hno.out (by rw [h]; rfl))
        clear h
        go_wp2_with fail
        go_ret
        exact ⟨bool_ret Hf.out, HB.out⟩
      · have e1 : (x.toList == []) = false := by rw [toList_toL, h]; rfl
        have e2 : (x.toList == [46]) = true := by rw [toList_toL, h]; rfl
        have Hf := Lib.hid (Hno.out (by rw [h]; rfl))
        clear h
        go_wp2_with fail
        go_ret
        exact ⟨bool_ret Hf.out, HB.out⟩
      · have e1 : (x.toList == []) = false := by rw [toList_toL, h]; rfl
        have e2 : (x.toList == [46]) = false := by rw [toList_toL, h]; rfl
        have e3 : (x.toList == [46, 46]) = true := by rw [toList_toL, h]; rfl
        have Hf := Lib.hid (Hno.out (by rw [h]; rfl))
        clear h
        go_wp2_with fail
        go_ret
        exact ⟨bool_ret Hf.out, HB.out⟩
      all_goals
        have e1 : (x.toList == []) = false := by rw [toList_toL]; exact beq_list h
        have e2 : (x.toList == [46]) = false := by rw [toList_toL]; exact beq_list h1
        have e3 : (x.toList == [46, 46]) = false := by rw [toList_toL]; exact beq_list h2
        have hx0 : 0 < x.size := by rw [← toL_len]; exact List.length_pos_iff.2 h
        have hx0I : (0 : Int) < x.size := by omega
        have hx1I : (1 : Int) ≤ x.size := by omega
        have hxm : ((x.size : Int) - 1).toNat = x.size - 1 := by omega
        have hxn : (0 : Int) ≤ (x.size : Int) - 1 := by omega
        have hxk : (x.size : Int) - 1 < x.size := by omega
        have hb0 : ∀ hb, x[0]'hb = (toL x).getD 0 0 := fun hb => str_byte hb
        have hb1 : ∀ hb, x[x.size - 1]'hb = (toL x).getD (x.size - 1) 0 := fun hb => str_byte hb
      · have Hf := Lib.hid (Hno.out (ok_front h3))
        have hn : ((toL x).getD 0 0).toNat = 32 := by rw [h3]; rfl
        generalize (toL x).getD 0 0 = y at *
        clear h h1 h2 h3
        go_wp2_with fail
        go_ret
        exact ⟨bool_ret Hf.out, HB.out⟩
      · have Hf := Lib.hid (Hno.out (ok_back h4))
        rw [toL_len] at h4
        have hn : ((toL x).getD (x.size - 1) 0).toNat = 32 := by rw [h4]; rfl
        have hn0 : ((((toL x).getD 0 0).toNat : Int) == 32) = false := by
          rw [beq_eq_false_iff_ne]; intro e; exact h3 (UInt8.toNat_inj.1 (by show _ = 32; omega))
        generalize (toL x).getD 0 0 = y at *
        generalize (toL x).getD (x.size - 1) 0 = z at *
        clear h h1 h2 h3 h4
        go_wp2_with fail
        go_ret
        exact ⟨bool_ret Hf.out, HB.out⟩
      · have Hfine := Lib.hid (ok_fine h h1 h2 h3 h4)
        have Hbad : Hid (∀ j, j < x.size → badByte ((toL x).getD j 0) = true → validName (toL s) = false) := Lib.hid fun j hj hb => Hno.out (ok_bad (by rw [toL_len]; exact hj) hb)
        have hn0 : ((((toL x).getD 0 0).toNat : Int) == 32) = false := by
          rw [beq_eq_false_iff_ne]; intro e; exact h3 (UInt8.toNat_inj.1 (by show _ = 32; omega))
        have hn1 : ((((toL x).getD (x.size - 1) 0).toNat : Int) == 32) = false := by
          rw [toL_len] at h4
          rw [beq_eq_false_iff_ne]; intro e; exact h4 (UInt8.toNat_inj.1 (by show _ = 32; omega))
        generalize hy : (toL x).getD 0 0 = y at *
        generalize hz : (toL x).getD (x.size - 1) 0 = z at *
        clear h h1 h2 h3 h4 hy hz Hno
        go_wp2_with fail
        clear hb0 hb1 hn0 hn1
        go_loop [6] (fun iv => InRel (toL x) x.size iv) (fun iv => x.size - (intOf iv).toNat)
        case atStart => exact ⟨0, by omega, rfl, fun j hj => by omega⟩
        case round =>
          obtain ⟨q, hq, rfl, hgood⟩ := hrel
          have Hgood := Lib.hid hgood
          clear hgood
          have hqr : (0 : Int) ≤ q := by omega
          by_cases hql : q < x.size
          · have hqI : (q : Int) < x.size := by omega
            have hbq : ∀ hb, x[q]'hb = (toL x).getD q 0 := fun hb => str_byte hb
            have hbn := bad_nat ((toL x).getD q 0)
            have hbd := Hbad.out q hql
            have Hst := Lib.hid (InRel.step hql Hgood.out)
            have h256 := ((toL x).getD q 0).toNat_lt
            generalize (toL x).getD q 0 = c at *
            rcases byte_of c.toNat h256 with h | ⟨h, h'⟩ | h | h | h | h | h | h | h | h | ⟨h1, h2, h3⟩
            · have Hf := Lib.hid (hbd (by rw [hbn]; simp; omega))
              have hcI : (c.toNat : Int) < 32 := by omega
              clear hbn hbd
              go_wp2_with fail
              go_ret
              exact ⟨bool_ret Hf.out, HB.out⟩
            · have Hf := Lib.hid (hbd (by rw [hbn]; simp; omega))
              have hcI : (32 : Int) ≤ c.toNat := by omega
              have hcJ : (126 : Int) < c.toNat := by omega
              clear hbn hbd
              go_wp2_with fail
              go_ret
              exact ⟨bool_ret Hf.out, HB.out⟩
            iterate 8
              · have Hf := Lib.hid (hbd (by rw [hbn, h]; rfl))
                clear hbn hbd
                go_wp2_with fail
                go_ret
                exact ⟨bool_ret Hf.out, HB.out⟩
            · obtain ⟨n1, n2, n3, n4, n5, n6, n7, n8⟩ := h3
              have Hf := Lib.hid (Hst.out (by rw [hbn]; simp; omega))
              have hcI : (32 : Int) ≤ c.toNat := by omega
              have hcJ : (c.toNat : Int) ≤ 126 := by omega
              have m1 : ((c.toNat : Int) == 92) = false := by rw [beq_eq_false_iff_ne]; omega
              have m2 : ((c.toNat : Int) == 58) = false := by rw [beq_eq_false_iff_ne]; omega
              have m3 : ((c.toNat : Int) == 42) = false := by rw [beq_eq_false_iff_ne]; omega
              have m4 : ((c.toNat : Int) == 63) = false := by rw [beq_eq_false_iff_ne]; omega
              have m5 : ((c.toNat : Int) == 34) = false := by rw [beq_eq_false_iff_ne]; omega
              have m6 : ((c.toNat : Int) == 60) = false := by rw [beq_eq_false_iff_ne]; omega
              have m7 : ((c.toNat : Int) == 62) = false := by rw [beq_eq_false_iff_ne]; omega
              have m8 : ((c.toNat : Int) == 124) = false := by rw [beq_eq_false_iff_ne]; omega
              clear hbn hbd n1 n2 n3 n4 n5 n6 n7 n8
              go_wp2_with fail
              exact ⟨Hf.out, by simp [intOf]; omega⟩
          · obtain rfl : q = x.size := by omega
            have Hv := Lib.hid (Hstep.out (Hfine.out fun j hj => Hgood.out j (by rw [← toL_len]; exact hj)))
            go_wp2_with fail
            exact ⟨Hv.out, by simp [intOf]; omega⟩
    · obtain rfl : k = D.length := by omega
      have Hf := Lib.hid (valid_yes HD.out H0.out h200 Hok.out)
      go_wp2_with fail
      go_ret
      exact ⟨bool_ret Hf.out, HB.out⟩
end Go.Proofs.YtdmladdpbdcpjaaDoor
