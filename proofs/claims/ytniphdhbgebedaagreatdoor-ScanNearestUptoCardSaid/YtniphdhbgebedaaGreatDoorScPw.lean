/-
  The module that has a package: Provider.
-/
import Derived.Test.YtniphdhbgebedaaGreatDoorScFw
namespace Go.Proofs.YtniphdhbgebedaaGreatDoor
open Go.RowKit

set_option linter.unusedSimpArgs false

set_option linter.unusedSimpArgs false

attribute [local go_sem] lt1 lt2 lt3 lt4 lt5 lt6

abbrev Ls (T : List ByteArray) : List (List UInt8) := T.map toL
def pvS (b : Option (List UInt8)) : ByteArray := mkS (b.getD [])
def PvRel (p : ByteArray) (T : List ByteArray) (bv fv iv : Value) : Prop := ∃ (k : Nat) (b : Option (List UInt8)), k ≤ T.length ∧ iv = .int .i64 (k : Nat) ∧ provF (toL p) none ((Ls T).take k) = b ∧ bv = .string (pvS b) ∧ fv = .bool b.isSome
theorem prov_step (p : List UInt8) (_b : Option (List UInt8)) (l : List (List UInt8)) (m : List UInt8) : provF p none (l ++ [m]) = if ownB p m = true ∧ (∀ x, provF p none l = some x → x.length < m.length) then some m else provF p none l := by
  rw [provF_app]; rfl
theorem add_slash (m : ByteArray) : toL (m ++ ⟨#[47]⟩) = toL m ++ [47] := by simp [toL]
def PvPost (p : ByteArray) (T : List ByteArray) (w : World) (e : Ending) (w' : World) : Prop := w' = w ∧ match provL (toL p) (Ls T) with
  | none => e = .returned (.tuple #[.string ⟨#[]⟩, .int .i64 30])
  | some y => e = .returned (.tuple #[.string (mkS y), .int .i64 0])
set_option maxRecDepth 100000 in
set_option maxHeartbeats 16000000 in
theorem provider_any (w : World) (p : ByteArray) (A : Option Addr) (c : Nat) (T : List ByteArray) (hS : Sl w A c T.length 1 (txV T)) (hl : T.length ≤ 1048576) (hz : ∀ t ∈ T, t.size ≤ 1048576) :
    Calls Tryz.prog 19 #[.string p, .slice A T.length c] w (PvPost p T w) := by
  have HS := Lib.hid hS
  have HZ := Lib.hid hz
  obtain ⟨RP, hRP⟩ : ∃ RP, RP = PvPost p T w := ⟨_, rfl⟩
  rw [← hRP]
  have HRP := Lib.hid hRP
  clear hS hz hRP
  go_enter Tryz.func19, Tryz.ntmps19
  go_wp2_with fail
  go_loop [6, 7, 13] (fun bv fv iv => PvRel p T bv fv iv) (fun _ _ iv => T.length - (intOf iv).toNat)
  case atStart => exact ⟨0, none, by omega, rfl, rfl, rfl, rfl⟩
  case round =>
    obtain ⟨k, b, hk, rfl, hb, rfl, rfl⟩ := hrel
    have hkr : (0 : Int) ≤ k := by omega
    have Hb := Lib.hid hb
    clear hb
    by_cases hlt : k < T.length
    · have hkI : (k : Int) < T.length := by omega
      obtain ⟨bb, o, s, rfl, hs, hc⟩ := str_at HS.out hlt
      have hsz : s.size ≤ 1048576 := HZ.out s (List.mem_of_getElem? hs)
      have htk : (Ls T).take (k + 1) = (Ls T).take k ++ [toL s] := take_snoc (by simp [Ls, hs])
      have hst := prov_step (toL p) none ((Ls T).take k) (toL s)
      rw [← htk, Hb.out] at hst
      have hseq := str_eq s p
      have hpx := Tryz.strings_HasPrefix p (s ++ ⟨#[47]⟩) w
      rw [show (s ++ (⟨#[47]⟩ : ByteArray)).data.toList = toL s ++ [47] from add_slash s, show p.data.toList = toL p from rfl] at hpx
      unfold Lib.hasPrefix at hpx
      have Hpx := Lib.hid hpx
      have Hst := Lib.hid hst
      clear hs htk hst hpx
      have next : ∀ b' : Option (List UInt8), provF (toL p) none ((Ls T).take (k + 1)) = b' → PvRel p T (.string (pvS b')) (.bool b'.isSome) (.int .i64 ((k : Int) + 1)) := fun b' h => ⟨k + 1, b', by omega, by go_num, h, rfl, rfl⟩
      have Hnext := Lib.hid next
      clear next
      obtain ⟨ow, how⟩ : ∃ ow, ownB (toL p) (toL s) = ow := ⟨_, rfl⟩
      have Hh := Lib.hid how
      clear how
      have hbs : b = none ∨ ∃ x, b = some x := by cases b; exact .inl rfl; exact .inr ⟨_, rfl⟩
      by_cases he : s = p
      · rw [decide_eq_true he] at hseq
        have hoT : ownB (toL p) (toL s) = true := by rw [he]; simp [ownB]
        have HoT := Lib.hid hoT
        clear hoT he
        rcases hbs with rfl | ⟨x, rfl⟩
        · have HN := Lib.hid (Hnext.out (some (toL s)) (by rw [Hst.out, if_pos ⟨HoT.out, by simp⟩]))
          rw [show pvS (some (toL s)) = s from mkS_toL s] at HN
          go_wp2_with fail
          exact ⟨HN.out, by simp [intOf]; omega⟩
        · have hxs : (pvS (some x)).size = x.length := by simp [pvS, mkS, ByteArray.size]
          by_cases hlen : x.length < s.size
          · have hlI : ((pvS (some x)).size : Int) < s.size := by rw [hxs]; omega
            have HN := Lib.hid (Hnext.out (some (toL s)) (by rw [Hst.out, if_pos ⟨HoT.out, fun z hz => by cases hz; rw [toL_len]; exact hlen⟩]))
            rw [show pvS (some (toL s)) = s from mkS_toL s] at HN
            generalize pvS (some x) = PX at *
            clear hxs hlen
            go_wp2_with fail
            exact ⟨HN.out, by simp [intOf]; omega⟩
          · have hlI : ¬ ((pvS (some x)).size : Int) < s.size := by rw [hxs]; omega
            have HN := Lib.hid (Hnext.out (some x) (by rw [Hst.out, if_neg (fun h => hlen (by have := h.2 x rfl; rwa [toL_len] at this))]))
            generalize pvS (some x) = PX at *
            clear hxs hlen
            go_wp2_with fail
            exact ⟨HN.out, by simp [intOf]; omega⟩
      · rw [decide_eq_false he] at hseq
        have hne : toL s ≠ toL p := fun h => he (toL_inj h)
        have hoE : ownB (toL p) (toL s) = (toL s ++ [47]).isPrefixOf (toL p) := by unfold ownB; rw [decide_eq_false hne, Bool.false_or]
        have HoE := Lib.hid hoE
        clear hoE he hne
        rcases Bool.eq_false_or_eq_true ((toL s ++ [47]).isPrefixOf (toL p)) with hp | hp
        · rw [hp] at Hpx
          have HoT := Lib.hid (HoE.out.trans hp)
          clear hp
          rcases hbs with rfl | ⟨x, rfl⟩
          · have HN := Lib.hid (Hnext.out (some (toL s)) (by rw [Hst.out, if_pos ⟨HoT.out, by simp⟩]))
            rw [show pvS (some (toL s)) = s from mkS_toL s] at HN
            go_wp2_with (go_at_call 39; refine Hpx.out.mono ?_; rintro e y ⟨rfl, hy⟩; rw [hy])
            exact ⟨HN.out, by simp [intOf]; omega⟩
          · have hxs : (pvS (some x)).size = x.length := by simp [pvS, mkS, ByteArray.size]
            by_cases hlen : x.length < s.size
            · have hlI : ((pvS (some x)).size : Int) < s.size := by rw [hxs]; omega
              have HN := Lib.hid (Hnext.out (some (toL s)) (by rw [Hst.out, if_pos ⟨HoT.out, fun z hz => by cases hz; rw [toL_len]; exact hlen⟩]))
              rw [show pvS (some (toL s)) = s from mkS_toL s] at HN
              generalize pvS (some x) = PX at *
              clear hxs hlen
              go_wp2_with (go_at_call 39; refine Hpx.out.mono ?_; rintro e y ⟨rfl, hy⟩; rw [hy])
              exact ⟨HN.out, by simp [intOf]; omega⟩
            · have hlI : ¬ ((pvS (some x)).size : Int) < s.size := by rw [hxs]; omega
              have HN := Lib.hid (Hnext.out (some x) (by rw [Hst.out, if_neg (fun h => hlen (by have := h.2 x rfl; rwa [toL_len] at this))]))
              generalize pvS (some x) = PX at *
              clear hxs hlen
              go_wp2_with (go_at_call 39; refine Hpx.out.mono ?_; rintro e y ⟨rfl, hy⟩; rw [hy])
              exact ⟨HN.out, by simp [intOf]; omega⟩
        · rw [hp] at Hpx
          have HoF := Lib.hid (HoE.out.trans hp)
          clear hp
          have HN := Lib.hid (Hnext.out b (by rw [Hst.out, if_neg (fun h => by have := h.1; rw [HoF.out] at this; cases this)]))
          generalize pvS b = PX at *
          generalize b.isSome = BS at *
          go_wp2_with (go_at_call 39; refine Hpx.out.mono ?_; rintro e y ⟨rfl, hy⟩; rw [hy])
          exact ⟨HN.out, by simp [intOf]; omega⟩
    · have hkI : ¬ (k : Int) < T.length := by omega
      have hall : provL (toL p) (Ls T) = b := by
        have h1 := Hb.out
        rwa [List.take_of_length_le (by simp; omega)] at h1
      cases b with
      | none =>
        have HP : Hid (RP (.returned (.tuple #[.string ⟨#[]⟩, .int .i64 30])) w) := Lib.hid (by rw [HRP.out]; exact ⟨rfl, by rw [hall]⟩)
        clear hall
        go_wp2_with fail
        exact HP.out
      | some y =>
        have HP : Hid (RP (.returned (.tuple #[.string (mkS y), .int .i64 0])) w) := Lib.hid (by rw [HRP.out]; exact ⟨rfl, by rw [hall]⟩)
        rw [show pvS (some y) = mkS y from rfl]
        generalize mkS y = YS at *
        clear hall
        go_wp2_with fail
        exact HP.out
end Go.Proofs.YtniphdhbgebedaaGreatDoor
