/-
  What is laid for strconv; Itoa and Atoi at this program; number.
-/
import Derived.Test.YtlljjddgbilipaaGreatDoorTxWr
namespace Go.Proofs.YtlljjddgbilipaaGreatDoor
open Go.RowKit

set_option linter.unusedSimpArgs false

attribute [local go_sem] lt1 lt2 lt3 lt4 lt5 lt6

/-- the library's variables that Itoa and Atoi read -/
structure Lw (w : World) : Prop where
  pow : Lib.TabIs Tryz.prog w "internal/strconv.uint64pow10" .u64 Lib.pow10Tab
  syn : ∃ tp p, w.var? Tryz.prog "strconv.ErrSyntax" = some #[.iface tp p]
  rng : ∃ tp p, w.var? Tryz.prog "strconv.ErrRange" = some #[.iface tp p]
theorem var_below {P : Program} {n : String} {w w' : World} {cs : Array Value} (h : w.var? P n = some cs) (hb : Below w.heap.size w w') : w'.var? P n = some cs := by
  unfold World.var? at h ⊢
  cases hg : P.globalNamed n with
  | none => rw [hg] at h; exact absurd h (by simp)
  | some g =>
    rw [hg] at h
    simp only [Option.bind_some] at h ⊢
    cases hh : w.heap[g]? with
    | none => rw [hh] at h; exact absurd h (by simp)
    | some o =>
      rw [hb.block g (lt_of_heap hh), hh]
      rw [hh] at h
      exact h
theorem Lw.below {w w' : World} (h : Lw w) (hb : Below w.heap.size w w') : Lw w' := by
  obtain ⟨tp, p, h1⟩ := h.syn
  obtain ⟨tq, q, h2⟩ := h.rng
  exact ⟨var_below h.pow hb, ⟨tp, p, var_below h1 hb⟩, ⟨tq, q, var_below h2 hb⟩⟩
theorem Lw.to {b : Nat} {w w' : World} (h : Lw w) (hb : Below b w w') (hw : w.heap.size ≤ b) : Lw w' := h.below (hb.mono hw)
theorem below_grow {b : Nat} {w w' : World} (h : Below b w w') (hb : b ≤ w'.heap.size) (os : Array Obj) : Below b w (Go.Sort.grow w' os) := by
  refine ⟨h.os, h.tape, h.output, ?_, fun k hk => ?_⟩
  · show w.heap.size ≤ (w'.heap ++ os).size
    rw [Array.size_append]
    have := h.size
    omega
  · show (w'.heap ++ os)[k]? = _
    rw [Array.getElem?_append_left (by omega)]
    exact h.block k hk
theorem itoa_call {n : Int} (h0 : -9223372036854775808 ≤ n) (h1 : n ≤ 9223372036854775807) {w : World} (hw : Lw w) :
    Calls Tryz.prog 23 #[.int .i64 n] w fun e w' => e = .returned (.string (mkS (Lib.itoa n))) ∧ Below w.heap.size w w' := by
  refine (Tryz.strconv_Itoa n h0 h1 w hw.pow).mono ?_
  rintro e w' ⟨rfl, k, os, rfl⟩
  exact ⟨rfl, below_grow (below_drewN (Below.refl w.heap.size w) k) (Nat.le_refl _) os⟩
theorem itoa_len {n : Int} (h0 : -9223372036854775808 ≤ n) (h1 : n ≤ 9223372036854775807) : (Lib.itoa n).length ≤ 20 := by
  have key : ∀ u : Nat, u ≤ 9223372036854775808 → (Lib.decDigits u).length ≤ 19 := fun u hu => by
    obtain ⟨k1, k2, k3, k4⟩ := dec_all u
    by_cases h1 : 1 ≤ u
    · obtain ⟨c, r, e, hc⟩ := canon_head (dec_canon u)
      have hc0 : c ≠ 48 := fun e2 => k4 h1 (by rw [e, e2]; rfl)
      have := canon_pos k1 e hc0
      rw [k2] at this
      rw [e, List.length_cons]
      by_cases hl : r.length ≤ 18
      · omega
      · exfalso
        have h19 : p10 19 ≤ p10 r.length := p10_mono (by omega)
        rw [p10_19] at h19
        omega
    · have : u = 0 := by omega
      subst this
      rw [Lib.decDigits, dif_pos (by decide)]
      simp
  by_cases hn : 0 ≤ n
  · rw [itoa_pos hn]
    have := key n.toNat (by omega)
    omega
  · rw [itoa_minus (by omega), List.length_cons]
    have := key n.natAbs (by omega)
    omega
/-- what Atoi hands back: the number, or an error -/
def AtPost (w : World) (s : ByteArray) (e : Ending) (w' : World) : Prop := Below w.heap.size w w' ∧
  match Lib.atoiAll (toL s) with
  | .ok v => e = .returned (.tuple #[.int .i64 v, .nilIface])
  | _ => ∃ (n : Int) (N : Nat), e = .returned (.tuple #[.int .i64 n, .iface 131 (.pointer (some ⟨N, 0, none⟩))])
theorem atoi_call (s : ByteArray) (hl : s.size ≤ 1048576) {w : World} (hw : Lw w) : Calls Tryz.prog 40 #[.string s] w (AtPost w s) := by
  unfold AtPost
  cases h : Lib.atoiAll (toL s) with
  | ok v =>
    refine (Tryz.strconv_Atoi_ok s (by omega) v h w).mono ?_
    rintro e w' ⟨rfl, hw' | ⟨t, hw'⟩⟩
    · rw [hw']; exact ⟨Below.refl _ _, rfl⟩
    · rw [hw']; exact ⟨⟨rfl, rfl, rfl, by rw [Lib.bytesWorld_size]; omega, fun j hj => Lib.bytesWorld_at_old w _ t j hj⟩, rfl⟩
  | «syntax» =>
    obtain ⟨tp, p, h1⟩ := hw.syn
    refine (Tryz.strconv_Atoi_syntax_var s (by omega) h tp p w h1).mono ?_
    rintro e w' ⟨N, rfl, _, _, hB⟩
    exact ⟨hB, _, N, rfl⟩
  | range =>
    obtain ⟨tp, p, h1⟩ := hw.rng
    refine (Tryz.strconv_Atoi_range_var s (by omega) h tp p w h1).mono ?_
    rintro e w' ⟨N, rfl, _, _, hB⟩
    exact ⟨hB, _, N, rfl⟩
theorem within_any (n : Int) (w : World) : Calls Tryz.prog 22 #[.int .i64 n] w fun e w' => e = .returned (.bool (decide (-4611686018427387904 ≤ n ∧ n ≤ 4611686018427387904))) ∧ w = w' := by
  by_cases h1 : -4611686018427387904 ≤ n
  · by_cases h2 : n ≤ 4611686018427387904
    · go_enter Tryz.func22, Tryz.ntmps22
      go_wp2_with fail
      go_ret
      exact ⟨bool_ret (by simp [h1, h2]), rfl⟩
    · go_enter Tryz.func22, Tryz.ntmps22
      go_wp2_with fail
      go_ret
      exact ⟨bool_ret (by simp [h2]), rfl⟩
  · go_enter Tryz.func22, Tryz.ntmps22
    go_wp2_with fail
    go_ret
    exact ⟨bool_ret (by rw [decide_eq_false (show ¬ -4611686018427387904 ≤ n by omega)]; rfl), rfl⟩
/-- what number hands back: the number, if it is one -/
def NuPost (w : World) (s : ByteArray) (e : Ending) (w' : World) : Prop := Below w.heap.size w w' ∧ ∃ (n : Int) (b : Bool), e = .returned (.tuple #[.int .i64 n, .bool b]) ∧ numP (toL s) = if b = true then some n else none
theorem number_any (s : ByteArray) (hl : s.size ≤ 1048576) {w : World} (hw : Lw w) : Calls Tryz.prog 17 #[.string s] w (NuPost w s) := by
  have Hw := Lib.hid hw
  clear hw
  go_enter Tryz.func17, Tryz.ntmps17
  go_wp2_with fail
  refine (atoi_call s hl Hw.out).mono ?_
  rintro e w1 ⟨hB, he⟩
  have HB := Lib.hid hB
  have Hw1 := Lib.hid (Hw.out.below hB)
  clear hB
  have Hbad : Hid ((∀ v, Lib.atoiAll (toL s) ≠ .ok v) → numP (toL s) = none) := Lib.hid (fun h => by
    unfold numP
    split
    · rename_i v hv
      exact absurd hv (h v)
    · rfl)
  cases h : Lib.atoiAll (toL s) with
  | ok v =>
    rw [h] at he
    simp only at he
    subst he
    have Hn : Hid (numP (toL s) = if (-4611686018427387904 ≤ v ∧ v ≤ 4611686018427387904) ∧ Lib.itoa v = toL s then some v else none) := Lib.hid (by unfold numP; rw [h])
    clear h
    go_wp2_with fail
    refine (within_any v _).mono ?_
    rintro e w2 ⟨rfl, rfl⟩
    by_cases hin : -4611686018427387904 ≤ v ∧ v ≤ 4611686018427387904
    · have hdec : decide (-4611686018427387904 ≤ v ∧ v ≤ 4611686018427387904) = true := decide_eq_true hin
      rw [hdec]
      have Hin := Lib.hid hin
      clear hin hdec
      go_wp2_with fail
      refine (itoa_call (by have := Hin.out; omega) (by have := Hin.out; omega) Hw1.out).mono ?_
      rintro e w3 ⟨rfl, hB3⟩
      have HB3 := Lib.hid (HB.out.trans (hB3.mono HB.out.size))
      clear hB3
      by_cases hs : Lib.itoa v = toL s
      · have e1 : ((mkS (Lib.itoa v)).toList == s.toList) = true := by rw [toList_toL, toList_toL, toL_mkS, hs]; simp
        have Hs := Lib.hid hs
        clear hs
        go_wp2_with fail
        go_ret2
        exact ⟨HB3.out, v, true, rfl, by rw [Hn.out, if_pos ⟨Hin.out, Hs.out⟩]; rfl⟩
      · have e1 : ((mkS (Lib.itoa v)).toList == s.toList) = false := by rw [toList_toL, toList_toL, toL_mkS, beq_eq_false_iff_ne]; exact hs
        have Hs := Lib.hid hs
        clear hs
        go_wp2_with fail
        go_ret2
        exact ⟨HB3.out, v, false, rfl, by rw [Hn.out, if_neg (fun h => Hs.out h.2)]; rfl⟩
    · have hdec : decide (-4611686018427387904 ≤ v ∧ v ≤ 4611686018427387904) = false := decide_eq_false hin
      rw [hdec]
      have Hin := Lib.hid hin
      clear hin hdec
      go_wp2_with fail
      go_ret2
      exact ⟨HB.out, v, false, rfl, by rw [Hn.out, if_neg (fun h => Hin.out h.1)]; rfl⟩
  | «syntax» =>
    rw [h] at he
    obtain ⟨n, N, rfl⟩ := he
    have Hn := Lib.hid (Hbad.out (fun v hv => by rw [h] at hv; cases hv))
    clear h
    go_wp2_with fail
    go_ret2
    exact ⟨HB.out, n, false, rfl, Hn.out⟩
  | range =>
    rw [h] at he
    obtain ⟨n, N, rfl⟩ := he
    have Hn := Lib.hid (Hbad.out (fun v hv => by rw [h] at hv; cases hv))
    clear h
    go_wp2_with fail
    go_ret2
    exact ⟨HB.out, n, false, rfl, Hn.out⟩
end Go.Proofs.YtlljjddgbilipaaGreatDoor
