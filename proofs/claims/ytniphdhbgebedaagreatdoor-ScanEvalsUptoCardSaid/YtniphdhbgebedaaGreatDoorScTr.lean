/-
  strings.TrimLeft and strings.Trim by a set of several bytes.
-/
import Derived.Test.YtniphdhbgebedaaGreatDoorScTk
namespace Go.Proofs.YtniphdhbgebedaaGreatDoor
open Go.RowKit Go.Maps

set_option linter.unusedSimpArgs false

attribute [local go_sem] lt1 lt2 lt3 lt4 lt5 lt6

theorem drop_stop {p : UInt8 → Bool} : ∀ {l : List UInt8} {i : Nat}, (l.take i).all p = true → (∀ c, l[i]? = some c → p c = false) → l.dropWhile p = l.drop i
  | [], i, _, _ => by simp
  | c :: r, 0, _, h => by rw [List.dropWhile_cons, if_neg (by rw [h c rfl]; decide)]; rfl
  | c :: r, i + 1, ha, h => by
    rw [List.take_succ_cons, List.all_cons, Bool.and_eq_true] at ha
    rw [List.dropWhile_cons, if_pos ha.1, List.drop_succ_cons]
    exact drop_stop ha.2 (fun d hd => h d (by simpa using hd))
/-- the set, in memory -/
def SetAt (w : World) (b : Nat) (p : UInt8 → Bool) : Prop := b < w.heap.size ∧ ∀ x : UInt8, w.cell? ⟨b, x.toNat, none⟩ = some (.bool (p x))
def TlRel (w : World) (s : ByteArray) (p : UInt8 → Bool) (sv : Value) (wr : World) : Prop := ∃ i : Nat, i ≤ s.size ∧ sv = .string (s.extract i s.size) ∧ ((toL s).take i).all p = true ∧ wr = w
def sizeOfV : Value → Nat
  | .string s => s.size
  | _ => 0
theorem ext_at {s : ByteArray} {i : Nat} (h : i < s.size) : ∃ h0 : 0 < (s.extract i s.size).size, (s.extract i s.size)[0] = (toL s).getD i 0 := by
  have h0 : 0 < (s.extract i s.size).size := by rw [ByteArray.size_extract]; omega
  refine ⟨h0, ?_⟩
  rw [str_byte h0, toL_extract]
  have h1 : i < (toL s).length := by rw [toL_len]; exact h
  simp only [List.getD_eq_getElem?_getD]
  rw [List.getElem?_take_of_lt (by omega), List.getElem?_drop, Nat.add_zero]
theorem ext_drop (s : ByteArray) (i : Nat) : s.extract i s.size = mkS ((toL s).drop i) := by
  apply toL_inj
  rw [toL_extract, toL_mkS, List.take_of_length_le (by rw [List.length_drop, toL_len]; omega)]
theorem ext_next (s : ByteArray) (i : Nat) : (s.extract i s.size).extract 1 (s.extract i s.size).size = s.extract (i + 1) s.size := by
  rw [ext_drop (s.extract i s.size) 1, ext_drop s i, ext_drop s (i + 1), toL_mkS, List.drop_drop]
theorem trimLeft_any (w : World) (b : Nat) (p : UInt8 → Bool) (hp : SetAt w b p) (s : ByteArray) (hs : s.size ≤ 1048576) :
    Calls Tryz.prog 113 #[.string s, .pointer (some ⟨b, 0, none⟩)] w fun e w' => e = .returned (.string (mkS ((toL s).dropWhile p))) ∧ w = w' := by
  go_enter Tryz.func113, Tryz.ntmps113
  go_wp2_with fail
  go_loopw [0] (fun sv wr => TlRel w s p sv wr) (fun sv _ => sizeOfV sv)
  case atStart => exact ⟨0, by omega, by rw [show s.extract 0 s.size = s by simp], rfl, rfl⟩
  case round =>
    obtain ⟨i, hi, rfl, hall, rfl⟩ := hrel
    have Hall := Lib.hid hall
    clear hall
    obtain ⟨Q, hQ⟩ : ∃ Q, Q = s.extract i s.size := ⟨_, rfl⟩
    have hQz : Q.size = s.size - i := by rw [hQ, ByteArray.size_extract]; omega
    have HQz := Lib.hid hQz
    rw [← hQ]
    by_cases hlt : i < s.size
    · obtain ⟨h0, hq⟩ := ext_at hlt
      have hQ0 : 0 < Q.size := by omega
      have hq' : Q[0] = (toL s).getD i 0 := by subst hQ; exact hq
      obtain ⟨q, hqe⟩ : ∃ q, q = (toL s).getD i 0 := ⟨_, rfl⟩
      rw [← hqe] at hq'
      have hc := Tryz.asciiSet_contains b q (p q) wr (hp.2 q)
      have hgt : (0 : Int) < Q.size := by omega
      have Hqe := Lib.hid hqe
      have HQ := Lib.hid hQ
      clear hqe hQ hQz hq
      go_wp2_with fail
      refine hc.mono ?_
      rintro e y ⟨rfl, rfl⟩
      clear hc
      rcases Bool.eq_false_or_eq_true (p q) with hpq | hpq
      · rw [hpq]
        have h1 : (1 : Int) ≤ Q.size := by omega
        have hm : TlRel y s p (.string (Q.extract 1 Q.size)) y := ⟨i + 1, by omega, by rw [HQ.out, ext_next], by
          rw [take_succ_getD (by rw [toL_len]; exact hlt), List.all_append, Hall.out, ← Hqe.out]
          simp [hpq], rfl⟩
        have Hm := Lib.hid hm
        have hms : (Q.extract 1 Q.size).size < Q.size := by rw [ByteArray.size_extract]; omega
        clear hm hpq
        go_wp2_with fail
        first
          | exact ⟨Hm.out, by simp only [sizeOfV]; exact hms⟩
          | (go_show; sorry)
      · rw [hpq]
        have HD : Hid ((toL s).dropWhile p = (toL s).drop i) := Lib.hid (drop_stop Hall.out (fun c hc => by
          have : c = q := by rw [Hqe.out, List.getD_eq_getElem?_getD, hc]; rfl
          rw [this]
          exact hpq))
        clear hpq
        go_wp2_with fail
        go_ret
        exact ⟨congrArg (fun z => Ending.returned (.string z)) (by rw [HQ.out, ext_drop, HD.out]), rfl⟩
    · have hQ0 : ¬ (0 : Int) < Q.size := by omega
      have HD : Hid ((toL s).dropWhile p = (toL s).drop i) := Lib.hid (drop_stop Hall.out (fun c hc => by
        have := (List.getElem?_eq_some_iff.1 hc).1
        rw [toL_len] at this
        omega))
      have HQ := Lib.hid hQ
      clear hQ hQz
      go_wp2_with fail
      go_ret
      exact ⟨congrArg (fun z => Ending.returned (.string z)) (by rw [HQ.out, ext_drop, HD.out]), rfl⟩
theorem dropWhile_all {p : UInt8 → Bool} : ∀ {a c : List UInt8}, a.all p = true → (a ++ c).dropWhile p = c.dropWhile p
  | [], c, _ => rfl
  | x :: a, c, h => by
    rw [List.all_cons, Bool.and_eq_true] at h
    rw [List.cons_append, List.dropWhile_cons, if_pos h.1, dropWhile_all h.2]
theorem right_stop {p : UInt8 → Bool} {l : List UInt8} {i : Nat} (hi : i ≤ l.length) (h : (l.drop i).all p = true) (hs : i = 0 ∨ ∃ j c, i = j + 1 ∧ l[j]? = some c ∧ p c = false) : (l.reverse.dropWhile p).reverse = l.take i := by
  have e : l.reverse = (l.drop i).reverse ++ (l.take i).reverse := by rw [← List.reverse_append, List.take_append_drop]
  rw [e, dropWhile_all (by rw [List.all_reverse]; exact h)]
  rcases hs with rfl | ⟨j, c, rfl, hc, hp⟩
  · simp
  · rw [take_snoc hc, List.reverse_append, List.reverse_singleton, List.singleton_append, List.dropWhile_cons, if_neg (by rw [hp]; decide), List.reverse_cons, List.reverse_reverse]
theorem ext_take (s : ByteArray) (i : Nat) : s.extract 0 i = mkS ((toL s).take i) := by
  apply toL_inj
  rw [toL_extract, toL_mkS]
  simp
def TrRel (w : World) (s : ByteArray) (p : UInt8 → Bool) (sv : Value) (wr : World) : Prop := ∃ i : Nat, i ≤ s.size ∧ sv = .string (s.extract 0 i) ∧ ((toL s).drop i).all p = true ∧ wr = w
theorem trimRight_any (w : World) (b : Nat) (p : UInt8 → Bool) (hp : SetAt w b p) (s : ByteArray) (hs : s.size ≤ 1048576) :
    Calls Tryz.prog 114 #[.string s, .pointer (some ⟨b, 0, none⟩)] w fun e w' => e = .returned (.string (mkS (((toL s).reverse.dropWhile p).reverse))) ∧ w = w' := by
  go_enter Tryz.func114, Tryz.ntmps114
  go_wp2_with fail
  go_loopw [0] (fun sv wr => TrRel w s p sv wr) (fun sv _ => sizeOfV sv)
  case atStart => exact ⟨s.size, by omega, by rw [show s.extract 0 s.size = s by simp], by rw [List.drop_of_length_le (by rw [toL_len]; omega)]; rfl, rfl⟩
  case round =>
    obtain ⟨i, hi, rfl, hall, rfl⟩ := hrel
    have Hall := Lib.hid hall
    clear hall
    obtain ⟨Q, hQ⟩ : ∃ Q, Q = s.extract 0 i := ⟨_, rfl⟩
    have hQz : Q.size = i := by rw [hQ, ByteArray.size_extract]; omega
    have HQ := Lib.hid hQ
    rw [← hQ]
    clear hQ
    rcases i with _ | j
    · have HD : Hid ((((toL s).reverse.dropWhile p).reverse) = (toL s).take 0) := Lib.hid (right_stop (by omega) Hall.out (.inl rfl))
      have hQ0 : ¬ (0 : Int) < Q.size := by omega
      clear hQz
      go_wp2_with fail
      go_ret
      exact ⟨congrArg (fun z => Ending.returned (.string z)) (by rw [HQ.out, ext_take, HD.out]), rfl⟩
    · have hlt : j < s.size := by omega
      have hQj : j < Q.size := by omega
      obtain ⟨q, hqe⟩ : ∃ q, q = (toL s).getD j 0 := ⟨_, rfl⟩
      have hq' : Q[j] = q := by
        rw [hqe, str_byte hQj, HQ.out, ext_take, toL_mkS]
        simp only [List.getD_eq_getElem?_getD]
        rw [List.getElem?_take_of_lt (by omega)]
      have hc := Tryz.asciiSet_contains b q (p q) wr (hp.2 q)
      have hgt : (0 : Int) < Q.size := by omega
      have hjw : IntKind.i64.wrap ((Q.size : Int) - 1) = (Q.size : Int) - 1 := by rw [IntKind.wrap_i64]; omega
      have hj1 : (0 : Int) ≤ (Q.size : Int) - 1 := by omega
      have hj2 : (Q.size : Int) - 1 < Q.size := by omega
      have hj3 : ((Q.size : Int) - 1).toNat = j := by omega
      have hj4 : Q.size - 1 = j := by omega
      have Hqe := Lib.hid hqe
      have HQz := Lib.hid hQz
      have hqj : (toL s)[j]? = some q := by rw [hqe, List.getD_eq_getElem?_getD, List.getElem?_eq_getElem (by rw [toL_len]; exact hlt)]; rfl
      have Hqj := Lib.hid hqj
      clear hqe hQz hqj
      go_wp2_with fail
      refine hc.mono ?_
      rintro e y ⟨rfl, rfl⟩
      clear hc
      rcases Bool.eq_false_or_eq_true (p q) with hpq | hpq
      · rw [hpq]
        have hx : Q.extract 0 j = s.extract 0 j := by
          rw [ext_take, HQ.out, ext_take, ext_take, toL_mkS, List.take_take, show min j (j + 1) = j by omega]
        have hm : TrRel y s p (.string (Q.extract 0 j)) y := ⟨j, by omega, by rw [hx], by
          rw [List.drop_eq_getElem_cons (by rw [toL_len]; exact hlt), List.all_cons, Hall.out, Bool.and_true]
          have h := Hqj.out
          rw [List.getElem?_eq_getElem (by rw [toL_len]; exact hlt)] at h
          rw [Option.some.inj h, hpq], rfl⟩
        have Hm := Lib.hid hm
        have hms : (Q.extract 0 j).size < Q.size := by rw [ByteArray.size_extract]; omega
        clear hm hpq hx
        go_wp2_with fail
        first
          | exact ⟨Hm.out, by simp only [sizeOfV]; exact hms⟩
          | (go_show; sorry)
      · rw [hpq]
        have HD : Hid ((((toL s).reverse.dropWhile p).reverse) = (toL s).take (j + 1)) := Lib.hid (right_stop (by rw [toL_len]; omega) Hall.out (.inr ⟨j, q, rfl, Hqj.out, hpq⟩))
        clear hpq
        go_wp2_with fail
        go_ret
        exact ⟨congrArg (fun z => Ending.returned (.string z)) (by rw [HQ.out, ext_take, HD.out]), rfl⟩
end Go.Proofs.YtniphdhbgebedaaGreatDoor
