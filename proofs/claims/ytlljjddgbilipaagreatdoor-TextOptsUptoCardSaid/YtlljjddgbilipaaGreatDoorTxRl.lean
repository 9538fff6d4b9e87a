/-
  mewsref23.Line.
-/
import Derived.Test.YtlljjddgbilipaaGreatDoorTxWr
import Derived.Test.YtlljjddgbilipaaGreatDoorTxLi
import Derived.Test.YtlljjddgbilipaaGreatDoorTxTkq
namespace Go.Proofs.YtlljjddgbilipaaGreatDoor
open Go.RowKit Go.Maps

set_option linter.unusedSimpArgs false

attribute [local go_sem] lt1 lt2 lt3 lt4 lt5 lt6

theorem joinB_snoc : ∀ (l : List (List UInt8)) (x : List UInt8), joinB (l ++ [x]) = if l = [] then x else joinB l ++ 32 :: x
  | [], x => rfl
  | [a], x => rfl
  | a :: b :: r, x => by
    have ih := joinB_snoc (b :: r) x
    rw [if_neg (by simp)] at ih ⊢
    have h1 : joinB (a :: b :: r ++ [x]) = a ++ 32 :: joinB (b :: r ++ [x]) := rfl
    have h2 : joinB (a :: b :: r) = a ++ 32 :: joinB (b :: r) := rfl
    rw [h1, h2, ih, List.append_assoc]
    rfl
def wrD (D : List ByteArray) : List (List UInt8) := D.map fun p => writeW (toL p)
theorem wrD_eq (D : List ByteArray) : wrD D = (D.map toL).map writeW := by unfold wrD; rw [List.map_map]; rfl
theorem sum_le {l : List Nat} {m : Nat} (h : ∀ x ∈ l, x ≤ m) : l.sum ≤ m * l.length := by
  induction l with
  | nil => simp
  | cons x r ih =>
    have h1 := h x (by simp)
    have h2 := ih fun y hy => h y (by simp [hy])
    rw [List.sum_cons, List.length_cons, Nat.mul_succ]
    omega
theorem wrD_len {D : List ByteArray} (hD : ∀ p ∈ D, p.size ≤ 1048576) (hn : D.length ≤ 100000) (i : Nat) : (joinB (wrD (D.take i))).length ≤ 700000000000 := by
  rw [wrD_eq]
  have h1 := joinB_len6 ((D.take i).map toL)
  have h2 : (((D.take i).map toL).map List.length).sum ≤ 1048576 * (((D.take i).map toL).map List.length).length := sum_le fun x hx => by
    obtain ⟨y, hy, rfl⟩ := List.mem_map.1 hx
    obtain ⟨p, hp, rfl⟩ := List.mem_map.1 hy
    rw [toL_len]
    exact hD p (List.mem_of_mem_take hp)
  simp only [List.length_map, List.length_take] at h1 h2
  omega
def RlRel (w : World) (D : List ByteArray) (sv iv : Value) (wr : World) : Prop := ∃ (i : Nat) (S : ByteArray), i ≤ D.length ∧ iv = .int .i64 i ∧ sv = .string S ∧ S = mkS (joinB (wrD (D.take i))) ∧ Below w.heap.size w wr
set_option maxRecDepth 100000 in
set_option maxHeartbeats 4000000 in
theorem line_ref (w : World) (D : List ByteArray) (A : Option Addr) (c : Nat) (hs : Sl w A c D.length 1 (txs D)) (hD : ∀ p ∈ D, p.size ≤ 1048576) (hn : D.length ≤ 100000) :
    Calls Tryz.prog 26 #[.slice A D.length c] w fun e w' => e = .returned (.tuple #[.string (mkS (joinB (wrD D))), .bool (decide ((joinB (wrD D)).length ≤ 65536))]) ∧ Below w.heap.size w w' := by
  have HS := Lib.hid hs
  have HD := Lib.hid hD
  have Hn := Lib.hid hn
  have hdl : D.length ≤ 9223372036854775807 := by omega
  clear hs hD hn
  go_enter Tryz.func26, Tryz.ntmps26
  go_wp2_with fail
  go_loopw [4, 5] (fun sv iv wr => RlRel w D sv iv wr) (fun _ iv _ => D.length - (intOf iv).toNat)
  case atStart => exact ⟨0, ⟨#[]⟩, Nat.zero_le _, rfl, rfl, rfl, Below.refl _ _⟩
  case round =>
    obtain ⟨i, S, hi, rfl, rfl, hS, hB⟩ := hrel
    have hSz : S.size ≤ 700000000000 := by rw [hS, mkS_size]; exact wrD_len HD.out Hn.out i
    have HSt := Lib.hid hS
    have HB := Lib.hid hB
    clear hS hB
    by_cases hlt : i < D.length
    · obtain ⟨ba, oa, p, rfl, hp, g1⟩ := str_at (HS.out.keep (Cells.of_below HB.out)) hlt
      have hltI : (i : Int) < D.length := by omega
      have Hp := Lib.hid hp
      have hps : p.size ≤ 1048576 := HD.out p (List.mem_of_getElem? hp)
      clear hp
      have Hstep : Hid (joinB (wrD (D.take (i + 1))) = if D.take i = [] then writeW (toL p) else joinB (wrD (D.take i)) ++ 32 :: writeW (toL p)) := Lib.hid (by
        rw [take_snoc Hp.out]
        unfold wrD
        rw [List.map_append, List.map_singleton, joinB_snoc]
        simp)
      have Hwl := Lib.hid (writeW_len6 (toL p))
      by_cases h0 : i = 0
      · subst h0
        rw [Nat.add_zero] at g1
        have hgt : ¬ (0 : Int) < ((0 : Nat) : Int) := by omega
        go_wp2_with fail
        refine (word_ref _ p hps).mono ?_
        rintro e y1 ⟨rfl, hB1⟩
        have HB1' := Lib.hid (HB.out.trans (hB1.mono HB.out.size))
        obtain ⟨Q, hQ⟩ : ∃ Q, Q = mkS (writeW (toL p)) := ⟨_, rfl⟩
        rw [← hQ]
        have hQz : Q.size ≤ 6291458 := by
          rw [hQ, mkS_size]
          have := Hwl.out
          rw [toL_len] at this
          omega
        have HQ := Lib.hid hQ
        clear hB1 hQ
        go_wp2_with fail
        go_roundw
        case rel =>
          refine ⟨1, _, by omega, by go_num, rfl, ?_, HB1'.out⟩
          apply toL_inj
          rw [toL_append, HSt.out, HQ.out, toL_mkS, toL_mkS, toL_mkS, show 1 = 0 + 1 from rfl, Hstep.out]
          simp [wrD, joinB]
        case measure => simp [intOf]; omega
      · have hgt : (0 : Int) < (i : Int) := by omega
        go_wp2_with fail
        refine (word_ref _ p hps).mono ?_
        rintro e y1 ⟨rfl, hB1⟩
        have HB1' := Lib.hid (HB.out.trans (hB1.mono HB.out.size))
        obtain ⟨Q, hQ⟩ : ∃ Q, Q = mkS (writeW (toL p)) := ⟨_, rfl⟩
        rw [← hQ]
        have hQz : Q.size ≤ 6291458 := by
          rw [hQ, mkS_size]
          have := Hwl.out
          rw [toL_len] at this
          omega
        have HQ := Lib.hid hQ
        have Hne : Hid (D.take i ≠ []) := Lib.hid fun he => by
          have := congrArg List.length he
          rw [List.length_take, List.length_nil] at this
          omega
        clear hB1 hQ
        go_wp2_with fail
        go_roundw
        case rel =>
          refine ⟨i + 1, _, by omega, by go_num, rfl, ?_, HB1'.out⟩
          apply toL_inj
          rw [toL_append, toL_append, HSt.out, HQ.out, toL_mkS, toL_mkS, toL_mkS, Hstep.out, if_neg Hne.out, List.append_assoc]
          rfl
        case measure => simp [intOf]; omega
    · have hltI : ¬ (i : Int) < D.length := by omega
      have hie : i = D.length := by omega
      have HSe : Hid (S = mkS (joinB (wrD D))) := Lib.hid (by rw [HSt.out, hie, List.take_of_length_le (Nat.le_refl _)])
      clear hie
      go_wp2_with fail
      go_ret2
      refine ⟨?_, HB.out⟩
      have hd : decide ((joinB (wrD D)).length ≤ 65536) = decide ((S.size : Int) ≤ 65536) := decide_eq_decide.2 (by rw [HSe.out, mkS_size]; omega)
      rw [hd, ← HSe.out]
      rfl
end Go.Proofs.YtlljjddgbilipaaGreatDoor
