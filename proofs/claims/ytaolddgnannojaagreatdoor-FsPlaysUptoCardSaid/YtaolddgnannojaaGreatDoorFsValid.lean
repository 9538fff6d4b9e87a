/-
  Which names a file may have: plain; the package's Valid, Dir.
-/
import Derived.Test.YtaolddgnannojaaGreatDoorG1
import Derived.Test.YtaolddgnannojaaGreatDoorShelf
import Derived.Lib.Hide
import Derived.Lib.Split
import Derived.Lib.SplitLaws
import Derived.Lib.Bytealg
import Derived.Laws.BitsAllLaws
namespace Go.Proofs.YtaolddgnannojaaGreatDoor
open Go.RowKit

set_option linter.unusedSimpArgs false

attribute [local go_sem] lt1 lt2 lt3 lt4 lt5 lt6

def toL (s : ByteArray) : List UInt8 := s.data.toList
def txs (D : List ByteArray) : List Value := D.map Value.string
theorem txs_one (D : List ByteArray) : ∀ u ∈ txs D, u.oneCell' = true := by
  intro u hu
  simp only [txs, List.mem_map] at hu
  obtain ⟨c, _, rfl⟩ := hu
  rfl
theorem txs_length (D : List ByteArray) : (txs D).length = D.length := by simp [txs]
theorem toL_len (s : ByteArray) : (toL s).length = s.size := by unfold toL; rw [Array.length_toList]; rfl
theorem toL_inj {a b : ByteArray} (h : toL a = toL b) : a = b := by
  cases a; cases b
  unfold toL at h
  simpa using h
theorem str_byte {s : ByteArray} {i : Nat} (hi : i < s.size) : s[i] = (toL s).getD i 0 := by
  have h : i < (toL s).length := by rw [toL_len]; exact hi
  rw [List.getD_eq_getElem?_getD, List.getElem?_eq_getElem h]
  rfl
/-! ### pieces -/
/-- the pieces of a text between bytes of one kind -/
def pieces (c : UInt8) : List UInt8 → List (List UInt8)
  | [] => [[]]
  | x :: r => if x = c then [] :: pieces c r else match pieces c r with
    | p :: ps => (x :: p) :: ps
    | [] => [[x]]
theorem pieces_ne (c : UInt8) : ∀ l, pieces c l ≠ []
  | [] => by simp [pieces]
  | x :: r => by
    unfold pieces
    split
    · simp
    · split <;> simp
theorem pieces_cut (c : UInt8) (r : List UInt8) : ∀ p : List UInt8, c ∉ p → pieces c (p ++ c :: r) = p :: pieces c r
  | [], _ => by simp [pieces]
  | x :: p, h => by
    have hx : x ≠ c := fun e => h (by simp [e])
    have ih := pieces_cut c r p (fun hh => h (by simp [hh]))
    rw [List.cons_append, pieces, if_neg hx, ih]
theorem pieces_end (c : UInt8) : ∀ p : List UInt8, c ∉ p → pieces c p = [p]
  | [], _ => rfl
  | x :: p, h => by
    have hx : x ≠ c := fun e => h (by simp [e])
    have ih := pieces_end c p (fun hh => h (by simp [hh]))
    rw [pieces, if_neg hx, ih]
theorem pieces_all (c : UInt8) (l : List UInt8) : ∀ p ∈ pieces c l, c ∉ p := by
  induction l with
  | nil => simp [pieces]
  | cons x r ih =>
    intro p hp
    unfold pieces at hp
    split at hp
    · rcases List.mem_cons.1 hp with rfl | hp
      · simp
      · exact ih p hp
    · rename_i hx
      split at hp
      · rename_i q ps hq
        rcases List.mem_cons.1 hp with rfl | hp
        · have := ih q (by rw [hq]; simp)
          simp only [List.mem_cons, not_or]
          exact ⟨fun e => hx e.symm, this⟩
        · exact ih p (by rw [hq]; simp [hp])
      · simp only [List.mem_singleton] at hp
        subst hp
        simp only [List.mem_singleton]
        exact fun e => hx e.symm
theorem pieces_length (c : UInt8) : ∀ l : List UInt8, (pieces c l).length ≤ l.length + 1
  | [] => by simp [pieces]
  | x :: r => by
    have ih := pieces_length c r
    unfold pieces
    split
    · simp; omega
    · split
      · rename_i h; rw [h] at ih; simp at ih ⊢; omega
      · simp
theorem pieces_le (c : UInt8) (l : List UInt8) : ∀ p ∈ pieces c l, p.length ≤ l.length := by
  induction l with
  | nil => simp [pieces]
  | cons x r ih =>
    intro p hp
    unfold pieces at hp
    split at hp
    · rcases List.mem_cons.1 hp with rfl | hp
      · simp
      · have := ih p hp; simp; omega
    · split at hp
      · rename_i q ps hq
        rcases List.mem_cons.1 hp with rfl | hp
        · have := ih q (by rw [hq]; simp); simp; omega
        · have := ih p (by rw [hq]; simp [hp]); simp; omega
      · simp only [List.mem_singleton] at hp
        subst hp
        simp

/-! ### names -/
/-- a byte that no name has -/
def badByte (c : UInt8) : Bool := decide (c < 0x21) || decide (0x7e < c) || c == 92
def okPiece (x : List UInt8) : Bool := x != [] && x != [46] && x != [46, 46] && x.all (fun c => !badByte c)
def validF (s : List UInt8) : Bool := s != [] && decide (s.length ≤ 240) && (pieces 47 s).all okPiece
theorem toList_toL (s : ByteArray) : s.toList = toL s := Lib.toList_data s
theorem bad_iff : ∀ n : Fin 256, badByte (UInt8.ofNat n) = (decide (n.val < 33) || decide (126 < n.val) || n.val == 92) := by decide +kernel
theorem bad_nat (c : UInt8) : badByte c = (decide (c.toNat < 33) || decide (126 < c.toNat) || c.toNat == 92) := by
  have := bad_iff ⟨c.toNat, c.toNat_lt⟩
  rwa [UInt8.ofNat_toNat] at this
def ValidRel (D : List ByteArray) (iv : Value) : Prop := ∃ k, k ≤ D.length ∧ iv = .int .i64 (k : Nat) ∧ ∀ j, j < k → okPiece (toL (D.getD j ⟨#[]⟩)) = true
def InRel (x : List UInt8) (n : Nat) (iv : Value) : Prop := ∃ k, k ≤ n ∧ iv = .int .i64 (k : Nat) ∧ ∀ j, j < k → badByte (x.getD j 0) = false
theorem ValidRel.step {D : List ByteArray} {k : Nat} (hk : k < D.length) (h : ∀ j, j < k → okPiece (toL (D.getD j ⟨#[]⟩)) = true) (h1 : okPiece (toL (D.getD k ⟨#[]⟩)) = true) : ValidRel D (.int .i64 ((k : Int) + 1)) :=
  ⟨k + 1, by omega, rfl, fun j hj => by rcases Nat.lt_or_ge j k with h2 | h2; exact h j h2; obtain rfl : j = k := by omega
                                        exact h1⟩
theorem InRel.step {x : List UInt8} {n k : Nat} (hk : k < n) (h : ∀ j, j < k → badByte (x.getD j 0) = false) (h1 : badByte (x.getD k 0) = false) : InRel x n (.int .i64 ((k : Int) + 1)) :=
  ⟨k + 1, by omega, rfl, fun j hj => by rcases Nat.lt_or_ge j k with h2 | h2; exact h j h2; obtain rfl : j = k := by omega
                                        exact h1⟩
def ValidPost (s : ByteArray) (w : World) (e : Ending) (w' : World) : Prop := e = .returned (.bool (validF (toL s))) ∧ Below w.heap.size w w'
theorem bool_ret {a b : Bool} (h : b = a) : Ending.returned (.bool a) = .returned (.bool b) := by rw [h]
theorem valid_no {s : ByteArray} {D : List ByteArray} (hD : D.map toL = pieces 47 (toL s)) {k : Nat} (hk : k < D.length) (h : okPiece (toL (D.getD k ⟨#[]⟩)) = false) : validF (toL s) = false := by
  unfold validF
  have hm : toL (D.getD k ⟨#[]⟩) ∈ pieces 47 (toL s) := by
    rw [← hD]
    refine List.mem_map_of_mem ?_
    rw [List.getD_eq_getElem?_getD, List.getElem?_eq_getElem hk]
    exact List.getElem_mem _
  have : (pieces 47 (toL s)).all okPiece = false := by
    rw [List.all_eq_false]
    exact ⟨_, hm, by rw [h]; simp⟩
  rw [this, Bool.and_false]
theorem valid_yes {s : ByteArray} {D : List ByteArray} (hD : D.map toL = pieces 47 (toL s)) (h1 : toL s ≠ []) (h2 : s.size ≤ 240) (h : ∀ j, j < D.length → okPiece (toL (D.getD j ⟨#[]⟩)) = true) : validF (toL s) = true := by
  unfold validF
  rw [← hD]
  simp only [Bool.and_eq_true, bne_iff_ne, decide_eq_true_eq, List.all_eq_true, List.mem_map, forall_exists_index, and_imp, forall_apply_eq_imp_iff₂]
  refine ⟨⟨h1, by rw [toL_len]; exact h2⟩, fun x hx => ?_⟩
  obtain ⟨j, hj, rfl⟩ := List.getElem_of_mem hx
  have := h j hj
  rwa [List.getD_eq_getElem?_getD, List.getElem?_eq_getElem hj] at this
theorem ok_none : okPiece [] = false := rfl
theorem ok_dot : okPiece [46] = false := rfl
theorem ok_dots : okPiece [46, 46] = false := rfl
theorem ok_bad {x : List UInt8} {k : Nat} (hk : k < x.length) (h : badByte (x.getD k 0) = true) : okPiece x = false := by
  unfold okPiece
  have : x.all (fun c => !badByte c) = false := by
    rw [List.all_eq_false]
    refine ⟨x[k], List.getElem_mem _, ?_⟩
    rw [List.getD_eq_getElem?_getD, List.getElem?_eq_getElem hk] at h
    simpa using h
  rw [this, Bool.and_false]
theorem ok_fine {x : List UInt8} (h : x ≠ []) (h1 : x ≠ [46]) (h2 : x ≠ [46, 46]) (h5 : ∀ j, j < x.length → badByte (x.getD j 0) = false) : okPiece x = true := by
  unfold okPiece
  have : x.all (fun c => !badByte c) = true := by
    rw [List.all_eq_true]
    intro c hc
    obtain ⟨j, hj, rfl⟩ := List.getElem_of_mem hc
    have := h5 j hj
    rw [List.getD_eq_getElem?_getD, List.getElem?_eq_getElem hj] at this
    simpa using this
  rw [this]
  simp only [Bool.and_eq_true, bne_iff_ne, and_true]
  exact ⟨⟨h, h1⟩, h2⟩
theorem beq_list {a b : List UInt8} (h : a ≠ b) : (a == b) = false := beq_eq_false_iff_ne.2 h
/-- the library's variable bytealg.MaxLen holds a number -/
def MaxL (w : World) : Prop := ∃ m : Int, w.cell? ⟨0, 0, none⟩ = some (.int .i64 m)
theorem MaxL.keep {w w' : World} (h : MaxL w) (hc : Cells w w') : MaxL w' := by
  obtain ⟨m, hm⟩ := h
  exact ⟨m, hc _ _ hm⟩
theorem MaxL.below {w w' : World} (h : MaxL w) (hb : Below w.heap.size w w') : MaxL w' := h.keep (Cells.of_below hb)
theorem splitK_pieces (c : UInt8) : ∀ (n : Nat) (l : List UInt8), l.length ≤ n → Lib.splitK [c] 0 (l.count c) l = pieces c l := by
  intro n
  induction n with
  | zero =>
    intro l hl
    obtain rfl : l = [] := List.eq_nil_of_length_eq_zero (by omega)
    rfl
  | succ n ih =>
    intro l hl
    by_cases hm : c ∈ l
    · have hi : Lib.indexByte l c ≠ -1 := fun h => by
        obtain ⟨k, hk, rfl⟩ := List.getElem_of_mem hm
        exact Lib.indexByte_none h k (List.getElem?_eq_getElem hk)
      obtain ⟨o, ho⟩ : ∃ o : Nat, Lib.indexByte l c = o := ⟨(Lib.indexByte l c).toNat, by have := Lib.indexByte_ge l c; omega⟩
      obtain ⟨h1, h2⟩ := Lib.indexByte_some ho
      have hol := (List.getElem?_eq_some_iff.1 h1).1
      have hn : c ∉ l.take o := fun hh => by
        obtain ⟨k, hk, hc⟩ := List.getElem_of_mem hh
        rw [List.length_take] at hk
        rw [List.getElem_take] at hc
        exact h2 k (by omega) (by rw [List.getElem?_eq_getElem (by omega), hc])
      have hd : l = l.take o ++ c :: l.drop (o + 1) := by
        conv => lhs; rw [← List.take_append_drop o l]
        congr 1
        rw [List.drop_eq_getElem_cons hol]
        congr 1
        exact (List.getElem?_eq_some_iff.1 h1).2
      have hcount : l.count c = (l.drop (o + 1)).count c + 1 := by
        conv => lhs; rw [hd]
        rw [List.count_append, List.count_eq_zero.2 hn, List.count_cons_self]
        omega
      have hix : Lib.index l [c] = o := by rw [Lib.index_one, ho]
      rw [hcount, Lib.splitK, hix, if_neg (by simp), Int.toNat_natCast, Nat.add_zero]
      rw [show o + [c].length = o + 1 from rfl, ih _ (by rw [List.length_drop]; omega)]
      conv => rhs; rw [hd, pieces_cut _ _ _ hn]
    · rw [List.count_eq_zero.2 hm, pieces_end _ _ hm]
      rfl
def slash : ByteArray := ⟨#[47]⟩
theorem split_pieces (s : ByteArray) : (Lib.splitB slash 0 (Lib.countB s slash) s).map toL = pieces 47 (toL s) := by
  have h := Lib.splitB_data slash 0 (Lib.countB s slash) s
  have hc : Lib.countB s slash = (toL s).count 47 := Lib.count_one 47 (toL s)
  rw [hc] at h ⊢
  exact h.trans (splitK_pieces 47 _ (toL s) (Nat.le_refl _))
theorem split_call (s : ByteArray) (w : World) (hl : s.size ≤ 1048576) (hm : MaxL w) : ∃ D : List ByteArray, D.map toL = pieces 47 (toL s) ∧
    Calls Tryz.prog 66 #[.string s, .string ⟨#[47]⟩] w fun e w' => e = .returned (.slice (some ⟨w.heap.size, 0, none⟩) D.length D.length) ∧ w' = w.alloc (.cells (txs D).toArray 9) := by
  obtain ⟨m, hm⟩ := hm
  refine ⟨Lib.splitB slash 0 (Lib.countB s slash) s, split_pieces s, ?_⟩
  have := Tryz.strings_Split s slash m w (by omega) hm (by decide)
  rw [Lib.splitB_all slash (by decide) 0 _ s rfl]
  exact this
set_option maxHeartbeats 4000000 in
set_option maxRecDepth 100000 in
theorem valid_any (w : World) (s : ByteArray) (hl : s.size ≤ 1048576) (hm : MaxL w) :
    Calls Tryz.prog 21 #[.string s] w (ValidPost s w) := by
  by_cases h0 : toL s = []
  · have e : (s.toList == []) = true := by rw [toList_toL, h0]; rfl
    go_enter Tryz.func21, Tryz.ntmps21
    go_wp2_with fail
    go_ret
    exact ⟨bool_ret (by rw [h0]; rfl), Below.refl _ _⟩
  have e0 : (s.toList == []) = false := by rw [toList_toL]; exact beq_list h0
  have H0 := Lib.hid h0
  clear h0
  by_cases h240 : s.size ≤ 240
  case neg =>
    have hI : (240 : Int) < s.size := by omega
    go_enter Tryz.func21, Tryz.ntmps21
    go_wp2_with fail
    go_ret
    exact ⟨bool_ret (by unfold validF; rw [toL_len, decide_eq_false h240]; simp), Below.refl _ _⟩
  have hI : (s.size : Int) ≤ 240 := by omega
  obtain ⟨D, hD, hcut⟩ := split_call s w hl hm
  have hDl : D.length = (pieces 47 (toL s)).length := by rw [← hD, List.length_map]
  have hcells : Hid (∀ k, k < D.length → (w.alloc (.cells (txs D).toArray 9)).cell? ⟨w.heap.size, k, none⟩ = some (.string (D.getD k ⟨#[]⟩))) := Lib.hid fun k hk => ((blk_cells (heap_alloc_new w _)).1 k).trans (by
    unfold txs
    rw [List.getElem?_toArray, List.getElem?_map, List.getD_eq_getElem?_getD, List.getElem?_eq_getElem hk]
    rfl)
  have hpl : Hid (∀ k, k < D.length → (D.getD k ⟨#[]⟩).size ≤ s.size) := Lib.hid fun k hk => by
    have := pieces_le 47 (toL s) (toL (D.getD k ⟨#[]⟩)) (by
      rw [← hD]
      refine List.mem_map_of_mem ?_
      rw [List.getD_eq_getElem?_getD, List.getElem?_eq_getElem hk]
      exact List.getElem_mem _)
    rw [toL_len, toL_len] at this
    exact this
  have hDs : D.length ≤ 1048577 := by rw [hDl]; have := pieces_length 47 (toL s); rw [toL_len] at this; omega
  have HD := Lib.hid hD
  have HB : Hid (Below w.heap.size w (w.alloc (.cells (txs D).toArray 9))) := Lib.hid ((Below.refl _ _).alloc (Nat.le_refl _) _)
  clear hD hDl
  go_enter Tryz.func21, Tryz.ntmps21
  go_wp2_with fail
  refine hcut.mono ?_
  rintro e w1 ⟨rfl, hw1⟩
  rw [← hw1] at hcells HB
  have HP : Hid (∀ b, validF (toL s) = b → ValidPost s w (.returned (.bool b)) w1) := Lib.hid fun b hb => ⟨bool_ret hb, HB.out⟩
  clear HB
  clear hw1 hcut hm
  generalize w.heap.size = g at *
  go_wp2_with fail
  go_loop [17] (fun iv => ValidRel D iv) (fun iv => D.length - (intOf iv).toNat)
  case atStart => exact ⟨0, by omega, rfl, fun j hj => by omega⟩
  case round =>
    obtain ⟨k, hk, rfl, hok⟩ := hrel
    have Hok := Lib.hid hok
    clear hok
    have hkr : (0 : Int) ≤ k := by omega
    by_cases hlt : k < D.length
    · have hkI : (k : Int) < D.length := by omega
      have g1 := hcells.out k hlt
      have hxs := hpl.out k hlt
      have Hno := Lib.hid (valid_no HD.out hlt)
      have Hstep := Lib.hid (ValidRel.step hlt Hok.out)
      generalize D.getD k ⟨#[]⟩ = x at *
      by_cases h : toL x = []
      · have e1 : (x.toList == []) = true := by rw [toList_toL, h]; rfl
        have Hf := Lib.hid (Hno.out (by rw [h]; rfl))
        clear h
        go_wp2_with fail
        go_ret
        exact HP.out _ Hf.out
      by_cases h1 : toL x = [46]
      · have e1 : (x.toList == []) = false := by rw [toList_toL, h1]; rfl
        have e2 : (x.toList == [46]) = true := by rw [toList_toL, h1]; rfl
        have Hf := Lib.hid (Hno.out (by rw [h1]; rfl))
        clear h h1
        go_wp2_with fail
        go_ret
        exact HP.out _ Hf.out
      by_cases h2 : toL x = [46, 46]
      · have e1 : (x.toList == []) = false := by rw [toList_toL, h2]; rfl
        have e2 : (x.toList == [46]) = false := by rw [toList_toL, h2]; rfl
        have e3 : (x.toList == [46, 46]) = true := by rw [toList_toL, h2]; rfl
        have Hf := Lib.hid (Hno.out (by rw [h2]; rfl))
        clear h h1 h2
        go_wp2_with fail
        go_ret
        exact HP.out _ Hf.out
      have e1 : (x.toList == []) = false := by rw [toList_toL]; exact beq_list h
      have e2 : (x.toList == [46]) = false := by rw [toList_toL]; exact beq_list h1
      have e3 : (x.toList == [46, 46]) = false := by rw [toList_toL]; exact beq_list h2
      have Hfine := Lib.hid (ok_fine h h1 h2)
      have Hbad : Hid (∀ j, j < x.size → badByte ((toL x).getD j 0) = true → validF (toL s) = false) := Lib.hid fun j hj hb => Hno.out (ok_bad (by rw [toL_len]; exact hj) hb)
      clear h h1 h2 Hno
      go_wp2_with fail
      go_loop [5] (fun iv => InRel (toL x) x.size iv) (fun iv => x.size - (intOf iv).toNat)
      case atStart => exact ⟨0, by omega, rfl, fun j hj => by omega⟩
      case round =>
        obtain ⟨q, hq, rfl, hgood⟩ := hrel
        have Hgood := Lib.hid hgood
        clear hgood
        have hqr : (0 : Int) ≤ q := by omega
        by_cases hql : q < x.size
        · have hqI : (q : Int) < x.size := by omega
          have hbq : ∀ hb, x[q]'hb = (toL x).getD q 0 := fun hb => str_byte hb
          have hbn := bad_nat ((toL x).getD q 0)
          have hbd := Hbad.out q hql
          have Hst := Lib.hid (InRel.step hql Hgood.out)
          have h256 := ((toL x).getD q 0).toNat_lt
          generalize (toL x).getD q 0 = c at *
          by_cases b1 : c.toNat < 33
          · have Hf := Lib.hid (hbd (by rw [hbn]; simp; omega))
            have hcI : (c.toNat : Int) < 33 := by omega
            clear hbn hbd
            go_wp2_with fail
            go_ret
            exact HP.out _ Hf.out
          have hcI : (33 : Int) ≤ c.toNat := by omega
          by_cases b2 : 126 < c.toNat
          · have Hf := Lib.hid (hbd (by rw [hbn]; simp; omega))
            have hcJ : (126 : Int) < c.toNat := by omega
            clear hbn hbd
            go_wp2_with fail
            go_ret
            exact HP.out _ Hf.out
          have hcJ : (c.toNat : Int) ≤ 126 := by omega
          by_cases b3 : c.toNat = 92
          · have Hf := Lib.hid (hbd (by rw [hbn, b3]; rfl))
            have hcK : ((c.toNat : Int) == 92) = true := by rw [beq_iff_eq]; omega
            clear hbn hbd b3
            go_wp2_with fail
            go_ret
            exact HP.out _ Hf.out
          · have Hf := Lib.hid (Hst.out (by rw [hbn]; simp; omega))
            have hcK : ((c.toNat : Int) == 92) = false := by rw [beq_eq_false_iff_ne]; omega
            clear hbn hbd b3
            go_wp2_with fail
            exact ⟨Hf.out, by simp [intOf]; omega⟩
        · obtain rfl : q = x.size := by omega
          have Hv := Lib.hid (Hstep.out (Hfine.out fun j hj => Hgood.out j (by rw [← toL_len]; exact hj)))
          go_wp2_with fail
          exact ⟨Hv.out, by simp [intOf]; omega⟩
    · obtain rfl : k = D.length := by omega
      have Hf := Lib.hid (valid_yes HD.out H0.out h240 Hok.out)
      go_wp2_with fail
      go_ret
      exact HP.out _ Hf.out
/-! ### Dir -/
def dirOf (s : ByteArray) : ByteArray := s.extract 0 (max (Lib.lastIndexByte s 47) 0).toNat
theorem dir_any (w : World) (s : ByteArray) (hs : s.size ≤ 1048576) : Calls Tryz.prog 27 #[.string s] w fun e w' => e = .returned (.string (dirOf s)) ∧ w' = w := by
  have hc := Tryz.strings_LastIndex_one s ⟨#[47]⟩ rfl (by omega) w
  have hle : Lib.lastIndexByte s 47 ≤ s.size ∧ -1 ≤ Lib.lastIndexByte s 47 := by
    rcases Lib.lastIndexByte_spec s 47 with ⟨h, _⟩ | ⟨i, hi, h, _⟩
    · rw [h]; omega
    · rw [h]; omega
  unfold dirOf
  have hx : Lib.lastIndexByte s (((⟨#[47]⟩ : ByteArray)[0]'(by decide)).toNat : Int) = Lib.lastIndexByte s 47 := rfl
  rw [hx] at hc
  generalize Lib.lastIndexByte s 47 = j at *
  have hm0 : (0 : Int) ≤ max j 0 := by omega
  have hm1 : max j 0 ≤ s.size := by omega
  go_enter Tryz.func27, Tryz.ntmps27
  go_wp2_with fail
  refine hc.mono ?_
  rintro e w1 ⟨rfl, rfl⟩
  go_wp2_with fail
  go_ret
  exact ⟨rfl, rfl⟩
end Go.Proofs.YtaolddgnannojaaGreatDoor
