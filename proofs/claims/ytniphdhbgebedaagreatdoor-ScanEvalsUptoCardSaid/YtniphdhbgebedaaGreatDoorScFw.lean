/-
  The laws' few; the reference's small functions over texts.
-/
import Derived.Test.YtniphdhbgebedaaGreatDoorScFi
import Derived.Test.YtniphdhbgebedaaGreatDoorScPv
namespace Go.Proofs.YtniphdhbgebedaaGreatDoor
open Go.RowKit

set_option linter.unusedSimpArgs false

set_option linter.unusedSimpArgs false

attribute [local go_sem] lt1 lt2 lt3 lt4 lt5 lt6

def FewRel (L : Nat) (nv iv : Value) : Prop := ∃ (k : Nat) (n : Int), k ≤ L ∧ k ≤ 61 ∧ iv = .int .i64 (k : Nat) ∧ nv = .int .i64 n ∧ 0 ≤ n ∧ n ≤ 12000
def FwPost (T : List ByteArray) (w : World) (e : Ending) (w' : World) : Prop := ∃ b, e = .returned (.bool b) ∧ (b = true → T.length ≤ 60) ∧ w' = w
set_option maxHeartbeats 4000000 in
theorem few_any (w : World) (A : Option Addr) (c : Nat) (T : List ByteArray) (hS : Sl w A c T.length 1 (txV T)) (hl : T.length ≤ 1048576) (hz : ∀ t ∈ T, t.size ≤ 1048576) :
    Calls Tryz.prog 11 #[.slice A T.length c] w (FwPost T w) := by
  have HS := Lib.hid hS
  have HZ := Lib.hid hz
  clear hS hz
  go_enter Tryz.func11, Tryz.ntmps11
  go_wp2_with fail
  go_loop [3, 4] (fun nv iv => FewRel T.length nv iv) (fun _ iv => T.length + 1 - (intOf iv).toNat)
  case atStart => exact ⟨0, 0, by omega, by omega, rfl, rfl, by omega, by omega⟩
  case round =>
    obtain ⟨k, n, hk, hk61, rfl, rfl, h0, h1⟩ := hrel
    have hkr : (0 : Int) ≤ k := by omega
    by_cases hlt : k < T.length
    · have hkI : (k : Int) < T.length := by omega
      by_cases h60 : k ≤ 60
      · have h60I : (k : Int) ≤ 60 := by omega
        obtain ⟨b, o, s, rfl, hs, hc⟩ := str_at HS.out hlt
        have hsz : s.size ≤ 1048576 := HZ.out s (List.mem_of_getElem? hs)
        clear hs
        have hw1 : wrap64 (n + min (s.size : Int) 6000) = n + min (s.size : Int) 6000 := by unfold wrap64; omega
        go_wp2_with fail
        exact ⟨⟨k + 1, _, by omega, by omega, by go_num, rfl, by omega, by omega⟩, by simp [intOf]; omega⟩
      · have h60I : ¬ (k : Int) ≤ 60 := by omega
        have hT : ¬ (T.length : Int) ≤ 60 := by omega
        go_wp2_with fail
        go_ret
        exact ⟨false, rfl, (fun h => by cases h), rfl⟩
    · have hkI : ¬ (k : Int) < T.length := by omega
      by_cases hT : (T.length : Int) ≤ 60
      · by_cases hn : n ≤ 6000
        · go_wp2_with fail
          go_ret
          exact ⟨true, rfl, (fun _ => by omega), rfl⟩
        · go_wp2_with fail
          go_ret
          exact ⟨false, rfl, (fun h => by cases h), rfl⟩
      · go_wp2_with fail
        go_ret
        exact ⟨false, rfl, (fun h => by cases h), rfl⟩
theorem begins_any (s t : ByteArray) (w : World) (_hs : s.size ≤ 4194304) (_ht : t.size ≤ 4194304) : Calls Tryz.prog 20 #[.string s, .string t] w fun e w' => e = .returned (.bool ((toL t).isPrefixOf (toL s))) ∧ w' = w := by
  by_cases h : t.size ≤ s.size
  · have hI : (t.size : Int) ≤ s.size := by omega
    have e : ((s.extract 0 t.size).toList == t.toList) = (toL t).isPrefixOf (toL s) := by
      rw [toList_toL, toList_toL, toL_extract, Bool.eq_iff_iff, beq_iff_eq, List.isPrefixOf_iff_prefix, List.prefix_iff_eq_take]
      simp only [List.drop_zero, Nat.sub_zero, toL_len]
      exact ⟨fun h => h.symm, fun h => h.symm⟩
    obtain ⟨b, hb⟩ : ∃ b, (toL t).isPrefixOf (toL s) = b := ⟨_, rfl⟩
    rw [hb] at e ⊢
    clear hb
    go_enter Tryz.func20, Tryz.ntmps20
    go_wp2_with fail
    go_ret
    exact ⟨ret_bool rfl, rfl⟩
  · have hI : ¬ (t.size : Int) ≤ s.size := by omega
    have e : (toL t).isPrefixOf (toL s) = false := by
      rw [Bool.eq_false_iff]
      intro h'
      have := (List.isPrefixOf_iff_prefix.1 h').length_le
      rw [toL_len, toL_len] at this
      exact h this
    rw [e]
    clear e
    go_enter Tryz.func20, Tryz.ntmps20
    go_wp2_with fail
    go_ret
    exact ⟨rfl, rfl⟩
def HasRel (T : List ByteArray) (x : ByteArray) (iv : Value) : Prop := ∃ k : Nat, k ≤ T.length ∧ iv = .int .i64 (k : Nat) ∧ ∀ j, j < k → T[j]? ≠ some x
set_option maxHeartbeats 4000000 in
theorem has_any (w : World) (A : Option Addr) (c : Nat) (T : List ByteArray) (x : ByteArray) (hS : Sl w A c T.length 1 (txV T)) (hl : T.length ≤ 1048576) :
    Calls Tryz.prog 21 #[.slice A T.length c, .string x] w fun e w' => e = .returned (.bool (Lib.containsS T x)) ∧ w' = w := by
  have HS := Lib.hid hS
  clear hS
  go_enter Tryz.func21, Tryz.ntmps21
  go_wp2_with fail
  go_loop [5] (fun iv => HasRel T x iv) (fun iv => T.length - (intOf iv).toNat)
  case atStart => exact ⟨0, by omega, rfl, fun j hj => by omega⟩
  case round =>
    obtain ⟨k, hk, rfl, hno⟩ := hrel
    have Hno := Lib.hid hno
    clear hno
    have hkr : (0 : Int) ≤ k := by omega
    by_cases hlt : k < T.length
    · have hkI : (k : Int) < T.length := by omega
      obtain ⟨b, o, s, rfl, hs, hc⟩ := str_at HS.out hlt
      have hseq := str_eq s x
      by_cases he : s = x
      · rw [decide_eq_true he] at hseq
        have hin : x ∈ T := he ▸ List.mem_of_getElem? hs
        have Hin := Lib.hid hin
        clear he hs hin
        go_wp2_with fail
        go_ret
        exact ⟨ret_bool ((Lib.containsS_iff T x).2 Hin.out).symm, rfl⟩
      · rw [decide_eq_false he] at hseq
        have Hn : Hid (∀ j, j < k + 1 → T[j]? ≠ some x) := Lib.hid fun j hj => by
          rcases Nat.lt_or_ge j k with h2 | h2
          · exact Hno.out j h2
          · obtain rfl : j = k := by omega
            rw [hs]
            exact fun e => he (Option.some.inj e)
        clear he hs
        go_wp2_with fail
        exact ⟨⟨k + 1, by omega, by go_num, Hn.out⟩, by simp [intOf]; omega⟩
    · have hkI : ¬ (k : Int) < T.length := by omega
      have hout : x ∉ T := fun h => by
        obtain ⟨j, hj, e⟩ := List.getElem_of_mem h
        exact Hno.out j (by omega) (by rw [List.getElem?_eq_getElem hj, e])
      have Hout := Lib.hid hout
      clear hout
      go_wp2_with fail
      go_ret
      exact ⟨ret_bool (Bool.eq_false_iff.2 fun h => Hout.out ((Lib.containsS_iff T x).1 h)).symm, rfl⟩
end Go.Proofs.YtniphdhbgebedaaGreatDoor
