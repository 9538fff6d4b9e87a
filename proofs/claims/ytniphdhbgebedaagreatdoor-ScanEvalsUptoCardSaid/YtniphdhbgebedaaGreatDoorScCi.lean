/-
  Which texts an import may have: plain, and the package's CheckImport.
-/
import Derived.Test.YtniphdhbgebedaaGreatDoorScRu
import Derived.Lib.Split
import Derived.Lib.SplitLaws
namespace Go.Proofs.YtniphdhbgebedaaGreatDoor
open Go.RowKit

set_option linter.unusedSimpArgs false

set_option linter.unusedSimpArgs false

attribute [local go_sem] lt1 lt2 lt3 lt4 lt5 lt6

/-! ### pieces -/
/-- the pieces of a text between bytes of one kind -/
def pieces (c : UInt8) : List UInt8 → List (List UInt8)
  | [] => [[]]
  | x :: r => if x = c then [] :: pieces c r else match pieces c r with
    | p :: ps => (x :: p) :: ps
    | [] => [[x]]
theorem pieces_ne (c : UInt8) : ∀ l, pieces c l ≠ []
  | [] => by simp [pieces]
  | x :: r => by
    unfold pieces
    split
    · simp
    · split <;> simp
theorem pieces_cut (c : UInt8) (r : List UInt8) : ∀ p : List UInt8, c ∉ p → pieces c (p ++ c :: r) = p :: pieces c r
  | [], _ => by simp [pieces]
  | x :: p, h => by
    have hx : x ≠ c := fun e => h (by simp [e])
    have ih := pieces_cut c r p (fun hh => h (by simp [hh]))
    rw [List.cons_append, pieces, if_neg hx, ih]
theorem pieces_end (c : UInt8) : ∀ p : List UInt8, c ∉ p → pieces c p = [p]
  | [], _ => rfl
  | x :: p, h => by
    have hx : x ≠ c := fun e => h (by simp [e])
    have ih := pieces_end c p (fun hh => h (by simp [hh]))
    rw [pieces, if_neg hx, ih]
theorem pieces_all (c : UInt8) (l : List UInt8) : ∀ p ∈ pieces c l, c ∉ p := by
  induction l with
  | nil => simp [pieces]
  | cons x r ih =>
    intro p hp
    unfold pieces at hp
    split at hp
    · rcases List.mem_cons.1 hp with rfl | hp
      · simp
      · exact ih p hp
    · rename_i hx
      split at hp
      · rename_i q ps hq
        rcases List.mem_cons.1 hp with rfl | hp
        · have := ih q (by rw [hq]; simp)
          simp only [List.mem_cons, not_or]
          exact ⟨fun e => hx e.symm, this⟩
        · exact ih p (by rw [hq]; simp [hp])
      · simp only [List.mem_singleton] at hp
        subst hp
        simp only [List.mem_singleton]
        exact fun e => hx e.symm
theorem pieces_length (c : UInt8) : ∀ l : List UInt8, (pieces c l).length ≤ l.length + 1
  | [] => by simp [pieces]
  | x :: r => by
    have ih := pieces_length c r
    unfold pieces
    split
    · simp; omega
    · split
      · rename_i h; rw [h] at ih; simp at ih ⊢; omega
      · simp
theorem pieces_le (c : UInt8) (l : List UInt8) : ∀ p ∈ pieces c l, p.length ≤ l.length := by
  induction l with
  | nil => simp [pieces]
  | cons x r ih =>
    intro p hp
    unfold pieces at hp
    split at hp
    · rcases List.mem_cons.1 hp with rfl | hp
      · simp
      · have := ih p hp; simp; omega
    · split at hp
      · rename_i q ps hq
        rcases List.mem_cons.1 hp with rfl | hp
        · have := ih q (by rw [hq]; simp); simp; omega
        · have := ih p (by rw [hq]; simp [hp]); simp; omega
      · simp only [List.mem_singleton] at hp
        subst hp
        simp

theorem splitK_pieces (c : UInt8) : ∀ (n : Nat) (l : List UInt8), l.length ≤ n → Lib.splitK [c] 0 (l.count c) l = pieces c l := by
  intro n
  induction n with
  | zero =>
    intro l hl
    obtain rfl : l = [] := List.eq_nil_of_length_eq_zero (by omega)
    rfl
  | succ n ih =>
    intro l hl
    by_cases hm : c ∈ l
    · have hi : Lib.indexByte l c ≠ -1 := fun h => by
        obtain ⟨k, hk, rfl⟩ := List.getElem_of_mem hm
        exact Lib.indexByte_none h k (List.getElem?_eq_getElem hk)
      obtain ⟨o, ho⟩ : ∃ o : Nat, Lib.indexByte l c = o := ⟨(Lib.indexByte l c).toNat, by have := Lib.indexByte_ge l c; omega⟩
      obtain ⟨h1, h2⟩ := Lib.indexByte_some ho
      have hol := (List.getElem?_eq_some_iff.1 h1).1
      have hn : c ∉ l.take o := fun hh => by
        obtain ⟨k, hk, hc⟩ := List.getElem_of_mem hh
        rw [List.length_take] at hk
        rw [List.getElem_take] at hc
        exact h2 k (by omega) (by rw [List.getElem?_eq_getElem (by omega), hc])
      have hd : l = l.take o ++ c :: l.drop (o + 1) := by
        conv => lhs; rw [← List.take_append_drop o l]
        congr 1
        rw [List.drop_eq_getElem_cons hol]
        congr 1
        exact (List.getElem?_eq_some_iff.1 h1).2
      have hcount : l.count c = (l.drop (o + 1)).count c + 1 := by
        conv => lhs; rw [hd]
        rw [List.count_append, List.count_eq_zero.2 hn, List.count_cons_self]
        omega
      have hix : Lib.index l [c] = o := by rw [Lib.index_one, ho]
      rw [hcount, Lib.splitK, hix, if_neg (by simp), Int.toNat_natCast, Nat.add_zero]
      rw [show o + [c].length = o + 1 from rfl, ih _ (by rw [List.length_drop]; omega)]
      conv => rhs; rw [hd, pieces_cut _ _ _ hn]
    · rw [List.count_eq_zero.2 hm, pieces_end _ _ hm]
      rfl
def slash : ByteArray := ⟨#[47]⟩
theorem split_pieces (s : ByteArray) : (Lib.splitB slash 0 (Lib.countB s slash) s).map toL = pieces 47 (toL s) := by
  have h := Lib.splitB_data slash 0 (Lib.countB s slash) s
  have hc : Lib.countB s slash = (toL s).count 47 := Lib.count_one 47 (toL s)
  rw [hc] at h ⊢
  exact h.trans (splitK_pieces 47 _ (toL s) (Nat.le_refl _))
theorem split_call (s : ByteArray) (w : World) (hl : s.size ≤ 1048576) (hm : Glob w) : ∃ D : List ByteArray, D.map toL = pieces 47 (toL s) ∧
    Calls Tryz.prog 42 #[.string s, .string ⟨#[47]⟩] w fun e w' => e = .returned (.slice (some ⟨w.heap.size, 0, none⟩) D.length D.length) ∧ w' = w.alloc (.cells (txs D).toArray 9) := by
  obtain ⟨m, hm⟩ := hm
  refine ⟨Lib.splitB slash 0 (Lib.countB s slash) s, split_pieces s, ?_⟩
  have := Tryz.strings_Split s slash m w (by omega) hm (by decide)
  rw [Lib.splitB_all slash (by decide) 0 _ s rfl]
  exact this
def mdB (c : UInt8) : Bool := 48 ≤ c && c ≤ 57
theorem mdB_iff (c : UInt8) : mdB c = decide (48 ≤ c.toNat ∧ c.toNat ≤ 57) := by
  unfold mdB
  rw [Bool.eq_iff_iff]
  simp only [Bool.and_eq_true, decide_eq_true_eq, le_nat]
  exact Iff.rfl
theorem mdigit_any (c : UInt8) (w : World) : Calls Tryz.prog 180 #[.int .u8 (c.toNat : Int)] w fun e w' => e = .returned (.bool (mdB c)) ∧ w = w' := by
  obtain ⟨B, hB⟩ : ∃ B, B = mdB c := ⟨_, rfl⟩
  rw [← hB]
  rw [mdB_iff] at hB
  have HB := Lib.hid hB
  clear hB
  generalize c.toNat = n at *
  by_cases h1 : 48 ≤ n
  · have i1 : (48 : Int) ≤ n := by omega
    by_cases h2 : n ≤ 57
    · have i2 : (n : Int) ≤ 57 := by omega
      go_enter Tryz.func180, Tryz.ntmps180
      go_wp2_with fail
      go_ret
      exact ⟨ret_bool (by rw [HB.out]; first | (symm; rw [decide_eq_true_eq]; omega) | (symm; rw [decide_eq_false_iff_not]; omega)), rfl⟩
    · have i2 : ¬ (n : Int) ≤ 57 := by omega
      go_enter Tryz.func180, Tryz.ntmps180
      go_wp2_with fail
      go_ret
      exact ⟨ret_bool (by rw [HB.out]; first | (symm; rw [decide_eq_true_eq]; omega) | (symm; rw [decide_eq_false_iff_not]; omega)), rfl⟩
  · have i1 : ¬ (48 : Int) ≤ n := by omega
    go_enter Tryz.func180, Tryz.ntmps180
    go_wp2_with fail
    go_ret
    exact ⟨ret_bool (by rw [HB.out]; first | (symm; rw [decide_eq_true_eq]; omega) | (symm; rw [decide_eq_false_iff_not]; omega)), rfl⟩
def muB (c : UInt8) : Bool := 65 ≤ c && c ≤ 90
theorem muB_iff (c : UInt8) : muB c = decide (65 ≤ c.toNat ∧ c.toNat ≤ 90) := by
  unfold muB
  rw [Bool.eq_iff_iff]
  simp only [Bool.and_eq_true, decide_eq_true_eq, le_nat]
  exact Iff.rfl
theorem mupper_any (c : UInt8) (w : World) : Calls Tryz.prog 181 #[.int .u8 (c.toNat : Int)] w fun e w' => e = .returned (.bool (muB c)) ∧ w = w' := by
  obtain ⟨B, hB⟩ : ∃ B, B = muB c := ⟨_, rfl⟩
  rw [← hB]
  rw [muB_iff] at hB
  have HB := Lib.hid hB
  clear hB
  generalize c.toNat = n at *
  by_cases h1 : 65 ≤ n
  · have i1 : (65 : Int) ≤ n := by omega
    by_cases h2 : n ≤ 90
    · have i2 : (n : Int) ≤ 90 := by omega
      go_enter Tryz.func181, Tryz.ntmps181
      go_wp2_with fail
      go_ret
      exact ⟨ret_bool (by rw [HB.out]; first | (symm; rw [decide_eq_true_eq]; omega) | (symm; rw [decide_eq_false_iff_not]; omega)), rfl⟩
    · have i2 : ¬ (n : Int) ≤ 90 := by omega
      go_enter Tryz.func181, Tryz.ntmps181
      go_wp2_with fail
      go_ret
      exact ⟨ret_bool (by rw [HB.out]; first | (symm; rw [decide_eq_true_eq]; omega) | (symm; rw [decide_eq_false_iff_not]; omega)), rfl⟩
  · have i1 : ¬ (65 : Int) ≤ n := by omega
    go_enter Tryz.func181, Tryz.ntmps181
    go_wp2_with fail
    go_ret
    exact ⟨ret_bool (by rw [HB.out]; first | (symm; rw [decide_eq_true_eq]; omega) | (symm; rw [decide_eq_false_iff_not]; omega)), rfl⟩
def mlB (c : UInt8) : Bool := 97 ≤ c && c ≤ 122
theorem mlB_iff (c : UInt8) : mlB c = decide (97 ≤ c.toNat ∧ c.toNat ≤ 122) := by
  unfold mlB
  rw [Bool.eq_iff_iff]
  simp only [Bool.and_eq_true, decide_eq_true_eq, le_nat]
  exact Iff.rfl
theorem mlower_any (c : UInt8) (w : World) : Calls Tryz.prog 182 #[.int .u8 (c.toNat : Int)] w fun e w' => e = .returned (.bool (mlB c)) ∧ w = w' := by
  obtain ⟨B, hB⟩ : ∃ B, B = mlB c := ⟨_, rfl⟩
  rw [← hB]
  rw [mlB_iff] at hB
  have HB := Lib.hid hB
  clear hB
  generalize c.toNat = n at *
  by_cases h1 : 97 ≤ n
  · have i1 : (97 : Int) ≤ n := by omega
    by_cases h2 : n ≤ 122
    · have i2 : (n : Int) ≤ 122 := by omega
      go_enter Tryz.func182, Tryz.ntmps182
      go_wp2_with fail
      go_ret
      exact ⟨ret_bool (by rw [HB.out]; first | (symm; rw [decide_eq_true_eq]; omega) | (symm; rw [decide_eq_false_iff_not]; omega)), rfl⟩
    · have i2 : ¬ (n : Int) ≤ 122 := by omega
      go_enter Tryz.func182, Tryz.ntmps182
      go_wp2_with fail
      go_ret
      exact ⟨ret_bool (by rw [HB.out]; first | (symm; rw [decide_eq_true_eq]; omega) | (symm; rw [decide_eq_false_iff_not]; omega)), rfl⟩
  · have i1 : ¬ (97 : Int) ≤ n := by omega
    go_enter Tryz.func182, Tryz.ntmps182
    go_wp2_with fail
    go_ret
    exact ⟨ret_bool (by rw [HB.out]; first | (symm; rw [decide_eq_true_eq]; omega) | (symm; rw [decide_eq_false_iff_not]; omega)), rfl⟩
/-- a byte of an import's path -/
def othB : List UInt8 := [45, 46, 95, 126, 43]
def impB (c : UInt8) : Bool := mdB c || muB c || mlB c || othB.contains c
theorem idx_has (c : UInt8) : ∀ l : List UInt8, (idx c l).isSome = l.contains c
  | [] => rfl
  | x :: r => by
    rw [idx, List.contains_cons]
    by_cases h : x = c
    · rw [if_pos h, h]; simp
    · rw [if_neg h, Option.isSome_map, idx_has c r]
      have : (c == x) = false := beq_eq_false_iff_ne.2 fun e => h e.symm
      rw [this, Bool.false_or]
theorem word1_any (c : UInt8) (p : Nat) (w : World) (hp : w.cell? ⟨p, 0, none⟩ = some (.string (mkS othB))) : Calls Tryz.prog 179 #[.int .u8 (c.toNat : Int), .pointer (some ⟨p, 0, none⟩)] w fun e w' => e = .returned (.bool (impB c)) ∧ w = w' := by
  have hix := Tryz.strings_IndexByte (mkS othB) (c.toNat : Int) w
  rw [show ((c.toNat : Int)).toNat.toUInt8 = c from by simp, show (mkS othB).data.toList = othB from rfl, idx_lib] at hix
  obtain ⟨b1, hb1⟩ : ∃ b, mdB c = b := ⟨_, rfl⟩
  obtain ⟨b2, hb2⟩ : ∃ b, muB c = b := ⟨_, rfl⟩
  obtain ⟨b3, hb3⟩ : ∃ b, mlB c = b := ⟨_, rfl⟩
  obtain ⟨b4, hb4⟩ : ∃ b, othB.contains c = b := ⟨_, rfl⟩
  have hI : impB c = (b1 || b2 || b3 || b4) := by unfold impB; rw [hb1, hb2, hb3, hb4]
  have h4 : (idx c othB).isSome = b4 := by rw [idx_has, hb4]
  have hd := (mdigit_any c w)
  have hu := (mupper_any c w)
  have hl := (mlower_any c w)
  rw [hb1] at hd
  rw [hb2] at hu
  rw [hb3] at hl
  have HI := Lib.hid hI
  have HD := Lib.hid hd
  have HU := Lib.hid hu
  have HL := Lib.hid hl
  clear hI hd hu hl hb1 hb2 hb3 hb4
  obtain ⟨S, hS⟩ : ∃ S, mkS othB = S := ⟨_, rfl⟩
  rw [hS] at hp hix
  clear hS
  cases hi : idx c othB with
  | none =>
    rw [hi] at hix h4
    have HX := Lib.hid hix
    have H4 := Lib.hid h4
    clear hix h4 hi
    generalize c.toNat = n at *
    cases b1 <;> cases b2 <;> cases b3 <;>
      (go_enter Tryz.func179, Tryz.ntmps179
       go_wp2_with (first
        | (go_at_call 180; refine HD.out.mono ?_; rintro e y ⟨rfl, rfl⟩)
        | (go_at_call 181; refine HU.out.mono ?_; rintro e y ⟨rfl, rfl⟩)
        | (go_at_call 182; refine HL.out.mono ?_; rintro e y ⟨rfl, rfl⟩)
        | (go_at_call 91; refine HX.out.mono ?_; rintro e y ⟨rfl, hy⟩; rw [hy]))
       go_ret
       exact ⟨ret_bool (by rw [HI.out, ← H4.out]; rfl), rfl⟩)
  | some m =>
    rw [hi] at hix h4
    have HX := Lib.hid hix
    have H4 := Lib.hid h4
    clear hix h4 hi
    generalize c.toNat = n at *
    have hm0 : (0 : Int) ≤ (m : Int) := by omega
    cases b1 <;> cases b2 <;> cases b3 <;>
      (go_enter Tryz.func179, Tryz.ntmps179
       go_wp2_with (first
        | (go_at_call 180; refine HD.out.mono ?_; rintro e y ⟨rfl, rfl⟩)
        | (go_at_call 181; refine HU.out.mono ?_; rintro e y ⟨rfl, rfl⟩)
        | (go_at_call 182; refine HL.out.mono ?_; rintro e y ⟨rfl, rfl⟩)
        | (go_at_call 91; refine HX.out.mono ?_; rintro e y ⟨rfl, hy⟩; rw [hy]))
       go_ret
       exact ⟨ret_bool (by rw [HI.out, ← H4.out]; rfl), rfl⟩)
def wdV (p : Nat) : Value := .func (.func 179) #[] #[.pointer (some ⟨p, 0, none⟩)]
theorem wd_enter (args : Array Value) (x : World) : (callFunc 179 args).run Tryz.prog x = .ok (.enter 179 args) x := call_ok _ _ Tryz.func179 (by kernel_rfl) (by kernel_rfl) args x
def AllRel (x : List UInt8) (n : Nat) (iv : Value) : Prop := ∃ k, k ≤ n ∧ iv = .int .i64 (k : Nat) ∧ ∀ j, j < k → impB (x.getD j 0) = true
theorem all_bad {x : List UInt8} {k : Nat} (hk : k < x.length) (h : impB (x.getD k 0) = false) : x.all impB = false := by
  rw [List.all_eq_false]
  refine ⟨x[k], List.getElem_mem _, ?_⟩
  rw [List.getD_eq_getElem?_getD, List.getElem?_eq_getElem hk] at h
  simpa using h
theorem all_fine {x : List UInt8} (h5 : ∀ j, j < x.length → impB (x.getD j 0) = true) : x.all impB = true := by
  rw [List.all_eq_true]
  intro c hc
  obtain ⟨j, hj, rfl⟩ := List.getElem_of_mem hc
  have := h5 j hj
  rwa [List.getD_eq_getElem?_getD, List.getElem?_eq_getElem hj] at this
set_option maxHeartbeats 4000000 in
set_option maxRecDepth 100000 in
theorem all_any (s : ByteArray) (p : Nat) (w : World) (hp : w.cell? ⟨p, 0, none⟩ = some (.string (mkS othB))) (hz : s.size ≤ 1048576) : Calls Tryz.prog 178 #[.string s, wdV p] w fun e w' => e = .returned (.bool (toL s != [] && (toL s).all impB)) ∧ w' = w := by
  unfold wdV
  have hwd := wd_enter
  go_enter Tryz.func178, Tryz.ntmps178
  go_wp2_with fail
  go_loop [5] (fun iv => AllRel (toL s) s.size iv) (fun iv => s.size - (intOf iv).toNat)
  case atStart => exact ⟨0, by omega, rfl, fun j hj => by omega⟩
  case round =>
    obtain ⟨k, hk, rfl, hok⟩ := hrel
    have Hok := Lib.hid hok
    clear hok
    have hkr : (0 : Int) ≤ k := by omega
    by_cases hlt : k < s.size
    · have hkI : (k : Int) < s.size := by omega
      have hsb : s[k] = (toL s).getD k 0 := str_byte hlt
      obtain ⟨q, hq⟩ : ∃ q, q = (toL s).getD k 0 := ⟨_, rfl⟩
      rw [← hq] at hsb
      obtain ⟨b, hb⟩ : ∃ b, impB q = b := ⟨_, rfl⟩
      have hw1 := word1_any q p w hp
      rw [hb] at hw1
      have HW1 := Lib.hid hw1
      have Hq := Lib.hid hq
      have Hb := Lib.hid hb
      clear hw1 hq hb
      cases b with
      | true =>
        go_wp2_with (go_at_call 179; refine HW1.out.mono ?_; rintro e y ⟨rfl, rfl⟩)
        exact ⟨⟨k + 1, by omega, by go_num, fun j hj => by
          rcases Nat.lt_or_ge j k with h2 | h2
          · exact Hok.out j h2
          · obtain rfl : j = k := by omega
            rw [← Hq.out]; exact Hb.out⟩, by simp [intOf]; omega⟩
      | false =>
        go_wp2_with (go_at_call 179; refine HW1.out.mono ?_; rintro e y ⟨rfl, rfl⟩)
        go_ret
        exact ⟨ret_bool (by rw [all_bad (k := k) (by rw [toL_len]; exact hlt) (by rw [← Hq.out]; exact Hb.out), Bool.and_false]), rfl⟩
    · have hkI : ¬ (k : Int) < s.size := by omega
      have hall : (toL s).all impB = true := all_fine fun j hj => Hok.out j (by rw [toL_len] at hj; omega)
      have Hall := Lib.hid hall
      clear hall
      by_cases h0 : toL s = []
      · have e0 : (s.toList == []) = true := by rw [toList_toL, h0]; rfl
        have H0 := Lib.hid h0
        clear h0
        go_wp2_with fail
        go_ret
        exact ⟨ret_bool (by rw [H0.out]; rfl), rfl⟩
      · have e0 : (s.toList == []) = false := by rw [toList_toL]; exact beq_list h0
        have H0 := Lib.hid h0
        clear h0
        go_wp2_with fail
        go_ret
        exact ⟨ret_bool (by rw [Hall.out, Bool.and_true]; simp [H0.out]), rfl⟩
end Go.Proofs.YtniphdhbgebedaaGreatDoor
