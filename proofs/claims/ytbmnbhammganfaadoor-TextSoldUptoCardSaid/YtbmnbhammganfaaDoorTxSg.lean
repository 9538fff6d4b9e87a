/-
  text.FormatTold; mewsref23.ParseSold.
-/
import Derived.Test.YtbmnbhammganfaaDoorTxSf
import Derived.Test.YtbmnbhammganfaaDoorTxWx
namespace Go.Proofs.YtbmnbhammganfaaDoor
open Go.RowKit Go.Maps

set_option linter.unusedSimpArgs false

attribute [local go_sem] lt1 lt2 lt3 lt4 lt5 lt6

def toldW (n : Int) (y : Bool) : List UInt8 := if n ≠ 0 then [101, 114, 114, 32] ++ Lib.itoa n else if y = true then [111, 107, 32, 121, 101, 115] else [111, 107]
set_option maxRecDepth 100000 in
theorem formatTold_any (w : World) (n : Int) (y : Bool) (hn : -9223372036854775808 ≤ n ∧ n ≤ 9223372036854775807) (hw : Lw w) : Calls Tryd.prog 29 #[.agg #[.int .i64 n, .bool y]] w fun e w' => e = .returned (.string (mkS (toldW n y))) ∧ Below w.heap.size w w' := by
  have Hw := Lib.hid (hw.below ((Below.refl w.heap.size w).alloc (Nat.le_refl _) (.cells #[.int .i64 n, .bool y] 62)))
  have HB0 := Lib.hid ((Below.refl w.heap.size w).alloc (Nat.le_refl _) (.cells #[.int .i64 n, .bool y] 62))
  obtain ⟨hn1, hn2⟩ := hn
  clear hw
  by_cases h0 : n = 0
  · subst h0
    cases y with
    | true =>
      go_enter Tryd.func29, Tryd.ntmps29
      go_wp2_with fail
      go_ret
      exact ⟨rfl, HB0.out⟩
    | false =>
      go_enter Tryd.func29, Tryd.ntmps29
      go_wp2_with fail
      go_ret
      exact ⟨rfl, HB0.out⟩
  · have hb : (n == 0) = false := beq_eq_false_iff_ne.2 h0
    have Hq : Hid ((⟨#[101, 114, 114, 32]⟩ : ByteArray) ++ mkS (Lib.itoa n) = mkS (toldW n y)) := Lib.hid (by
      apply toL_inj
      rw [toL_append, toL_mkS, toL_mkS]
      unfold toldW
      rw [if_pos h0]
      rfl)
    have hil := itoa_len hn1 hn2
    clear h0
    go_enter Tryd.func29, Tryd.ntmps29
    go_wp2_with fail
    refine (itoa_call hn1 hn2 Hw.out).mono ?_
    rintro e w3 ⟨rfl, hB3⟩
    have HB3 := Lib.hid (HB0.out.trans (hB3.mono HB0.out.size))
    obtain ⟨Q, hQ⟩ : ∃ Q, Q = mkS (Lib.itoa n) := ⟨_, rfl⟩
    have hQz : Q.size ≤ 20 := by rw [hQ, mkS_size]; exact hil
    rw [← hQ]
    have HQ := Lib.hid hQ
    clear hB3 hQ hil
    go_wp2_with fail
    go_ret
    exact ⟨congrArg (fun z => Ending.returned (.string z)) (by rw [HQ.out]; exact Hq.out), HB3.out⟩
def RsPost (w : World) (s : ByteArray) (e : Ending) (w' : World) : Prop := ∃ (D : List ByteArray) (A : Option Addr) (c : Nat), e = .returned (.tuple #[.slice A D.length c, .int .i64 (soldErr (toL s))]) ∧ Sl w' A c D.length 1 (txs D) ∧ Below w.heap.size w w' ∧ (soldErr (toL s) = 0 → ∃ q, (q :: D).map toL = wordsOf (toL s))
theorem rs_zero {w w' : World} {s : ByteArray} {n : Int} (h : soldErr (toL s) = n) (h0 : n ≠ 0) (hB : Below w.heap.size w w') : RsPost w s (.returned (.tuple #[.slice none 0 0, .int .i64 n])) w' :=
  ⟨[], none, 0, by rw [h]; rfl, ⟨rfl, by simp, by simp, by simp, by simp⟩, hB, fun e => absurd (h.symm.trans e) h0⟩
set_option maxRecDepth 100000 in
set_option maxHeartbeats 8000000 in
theorem rparseSold_ref (s : ByteArray) (hl : s.size ≤ 1048576) (w : World) : Calls Tryd.prog 25 #[.string s] w (RsPost w s) := by
  go_enter Tryd.func25, Tryd.ntmps25
  go_wp2_with fail
  refine (words_ref _ s hl).mono ?_
  rintro e x1 ⟨D, v, rfl, hown, hB1, hD⟩
  obtain ⟨A, c, rfl, hS⟩ := row_sl hown
  have HB1 := Lib.hid hB1
  have HS1 := Lib.hid hS
  have HD := Lib.hid hD
  have hDs : D.length ≤ 1048576 := by
    have h1 := wordsOf_count (toL s)
    rw [← hD, List.length_map, toL_len] at h1
    omega
  clear hS hD hown hB1
  by_cases he : wordsErr (toL s) ≠ 0
  · have heb : (wordsErr (toL s) == 0) = false := beq_eq_false_iff_ne.2 he
    have Hp := Lib.hid (soldErr_err he)
    have He := Lib.hid he
    generalize wordsErr (toL s) = er at *
    clear he
    go_wp2_with fail
    go_ret2
    exact rs_zero Hp.out He.out HB1.out
  have he0 : wordsErr (toL s) = 0 := Decidable.not_not.1 he
  have Hp0 := Lib.hid (soldErr_ok he0)
  rw [he0]
  clear he he0
  by_cases hD0 : D = []
  · have hz : ((D.length : Int) == 0) = true := by rw [hD0]; rfl
    have Hp : Hid (soldErr (toL s) = 7) := Lib.hid (by rw [Hp0.out, ← HD.out, hD0]; rfl)
    clear hD0
    go_wp2_with fail
    go_ret2
    exact rs_zero Hp.out (by decide) HB1.out
  have hDl : 0 < D.length := List.length_pos_iff.2 hD0
  obtain ⟨bw, ow, q0, hA, hq0, hc0⟩ := str_at (w := x1) (x := D) HS1.out hDl
  rw [Nat.add_zero] at hc0
  subst hA
  have hz : ((D.length : Int) == 0) = false := by rw [beq_eq_false_iff_ne]; omega
  have hlt0 : (0 : Int) < D.length := by omega
  have Hhd : Hid ((wordsOf (toL s)).head? = some (toL q0)) := Lib.hid (by
    rw [← HD.out, List.head?_map, List.head?_eq_getElem?, hq0]
    rfl)
  have Hlen : Hid ((wordsOf (toL s)).length = D.length) := Lib.hid (by rw [← HD.out, List.length_map])
  clear hq0
  by_cases hr : ¬ q0.toList = [115, 101, 108, 108]
  · have hrb : (q0.toList == [115, 101, 108, 108]) = false := beq_eq_false_iff_ne.2 hr
    have Hp : Hid (soldErr (toL s) = 7) := Lib.hid (by
      rw [Hp0.out]
      unfold soldErrW
      rw [Hhd.out, if_pos (fun e => hr (by rw [toList_toL]; exact Option.some.inj e))])
    clear hD0
    go_wp2_with fail
    go_ret2
    exact rs_zero Hp.out (by decide) HB1.out
  have hr := Decidable.not_not.1 hr
  have hrb : (q0.toList == [115, 101, 108, 108]) = true := by rw [hr]; rfl
  have Hsel : Hid (soldErr (toL s) = if D.length < 4 ∨ D.length % 2 = 1 then 14 else 0) := Lib.hid (by
    rw [Hp0.out]
    unfold soldErrW
    rw [Hhd.out, if_neg (fun h => h (by rw [← toList_toL, hr]; rfl)), Hlen.out])
  by_cases hm : D.length < 4 ∨ D.length % 2 = 1
  · have Hp : Hid (soldErr (toL s) = 14) := Lib.hid (by rw [Hsel.out, if_pos hm])
    by_cases h4 : (D.length : Int) < 4
    · clear hm hD0
      go_wp2_with fail
      go_ret2
      exact rs_zero Hp.out (by decide) HB1.out
    · have hod : ((D.length : Int) % 2 == 1) = true := by
        have h1 : (D.length : Int) % 2 = ((D.length % 2 : Nat) : Int) := by omega
        rw [h1, beq_iff_eq]
        omega
      clear hm hD0
      go_wp2_with fail
      go_ret2
      exact rs_zero Hp.out (by decide) HB1.out
  have h4 : ¬ (D.length : Int) < 4 := by omega
  have hod : ((D.length : Int) % 2 == 1) = false := by
    have h1 : (D.length : Int) % 2 = ((D.length % 2 : Nat) : Int) := by omega
    rw [h1, beq_eq_false_iff_ne]
    omega
  have Hp : Hid (soldErr (toL s) = 0) := Lib.hid (by rw [Hsel.out, if_neg hm])
  have h1I : (1 : Int) ≤ D.length := by omega
  have hsl1 : ∀ w : World, (Instr.slice 39 (.slice (some ⟨bw, ow, none⟩) D.length c) (some (.int .i64 1)) none none).run Tryd.prog w = .ok (.slice (cutA (some ⟨bw, ow, none⟩) c 1) (D.length - 1) (c - 1)) w := fun w => slice_loS (some ⟨bw, ow, none⟩) D.length c 1 (by omega) w
  have hS2 := HS1.out.dropS (l := 1) (by omega)
  obtain ⟨D2, hD2⟩ : ∃ D2, D2 = D.drop 1 := ⟨_, rfl⟩
  have hlD : D.length - 1 = D2.length := by rw [hD2, List.length_drop]
  have hcons : ∃ q, q :: D2 = D := by
    cases D with
    | nil => simp at hDl
    | cons a r => exact ⟨a, by rw [hD2]; rfl⟩
  have e2 : (txs D).drop 1 = txs D2 := by rw [hD2, txs, txs, List.map_drop]
  rw [hlD] at hsl1 hS2
  rw [e2] at hS2
  have Hfin : Hid (RsPost w s (.returned (.tuple #[.slice (cutA (some ⟨bw, ow, none⟩) c 1) D2.length (c - 1), .int .i64 0])) x1) := Lib.hid ⟨D2, _, _, by rw [Hp.out], hS2, HB1.out, fun _ => by
    obtain ⟨q, hq⟩ := hcons
    exact ⟨q, by rw [hq]; exact HD.out⟩⟩
  clear hm hD0 hlD hcons e2 hS2 hD2
  go_wp2_with fail
  go_ret2
  exact Hfin.out
end Go.Proofs.YtbmnbhammganfaaDoor
