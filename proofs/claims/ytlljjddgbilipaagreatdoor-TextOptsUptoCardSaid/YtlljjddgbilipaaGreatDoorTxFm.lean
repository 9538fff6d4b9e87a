/-
  The fields of an act; the faults' words.
-/
import Derived.Test.YtlljjddgbilipaaGreatDoorTxF0
import Derived.Test.YtlljjddgbilipaaGreatDoorTxAr
import Derived.Maps.OwnSet
import Derived.Maps.RangeWalk
namespace Go.Proofs.YtlljjddgbilipaaGreatDoor
open Go.RowKit Go.Maps

set_option linter.unusedSimpArgs false

attribute [local go_sem] lt1 lt2 lt3 lt4 lt5 lt6

def tOff (c : UInt8) : Option Nat := if c.toNat = 80 then some 2 else if c.toNat = 86 then some 3 else if c.toNat = 110 then some 4 else if c.toNat = 85 then some 8 else none
def bOff (c : UInt8) : Option Nat := if c.toNat = 68 then some 5 else if c.toNat = 66 then some 12 else none
def nOff (c : UInt8) : Option Nat := if c.toNat = 78 then some 6 else if c.toNat = 77 then some 7 else if c.toNat = 65 then some 9 else if c.toNat = 70 then some 11 else none
theorem ptr_ret {a b : Option Addr} (h : a = b) : Ending.returned (.pointer a) = .returned (.pointer b) := by rw [h]
theorem ne_beq {n m : Nat} (h : ¬ n = m) : ((n : Int) == (m : Int)) = false := by rw [beq_eq_false_iff_ne]; omega
theorem textOf_any (b : Nat) (c : UInt8) (w : World) : Calls Tryz.prog 33 #[.pointer (some ⟨b, 0, none⟩), .int .i32 (c.toNat : Nat)] w fun e w' => e = .returned (.pointer ((tOff c).map fun o => ⟨b, o, none⟩)) ∧ w = w' := by
  unfold tOff
  generalize c.toNat = n
  by_cases h1 : n = 80
  · subst h1
    go_enter Tryz.func33, Tryz.ntmps33
    go_wp2_with fail
    go_ret
    exact ⟨rfl, rfl⟩
  have e1 : ((n : Int) == 80) = false := ne_beq h1
  by_cases h2 : n = 86
  · subst h2
    go_enter Tryz.func33, Tryz.ntmps33
    go_wp2_with fail
    go_ret
    exact ⟨rfl, rfl⟩
  have e2 : ((n : Int) == 86) = false := ne_beq h2
  by_cases h3 : n = 110
  · subst h3
    go_enter Tryz.func33, Tryz.ntmps33
    go_wp2_with fail
    go_ret
    exact ⟨rfl, rfl⟩
  have e3 : ((n : Int) == 110) = false := ne_beq h3
  by_cases h4 : n = 85
  · subst h4
    go_enter Tryz.func33, Tryz.ntmps33
    go_wp2_with fail
    go_ret
    exact ⟨rfl, rfl⟩
  have e4 : ((n : Int) == 85) = false := ne_beq h4
  go_enter Tryz.func33, Tryz.ntmps33
  go_wp2_with fail
  go_ret
  exact ⟨rfl, rfl⟩
theorem bytesOf_any (b : Nat) (c : UInt8) (w : World) : Calls Tryz.prog 34 #[.pointer (some ⟨b, 0, none⟩), .int .i32 (c.toNat : Nat)] w fun e w' => e = .returned (.pointer ((bOff c).map fun o => ⟨b, o, none⟩)) ∧ w = w' := by
  unfold bOff
  generalize c.toNat = n
  by_cases h1 : n = 68
  · subst h1
    go_enter Tryz.func34, Tryz.ntmps34
    go_wp2_with fail
    go_ret
    exact ⟨rfl, rfl⟩
  have e1 : ((n : Int) == 68) = false := ne_beq h1
  by_cases h2 : n = 66
  · subst h2
    go_enter Tryz.func34, Tryz.ntmps34
    go_wp2_with fail
    go_ret
    exact ⟨rfl, rfl⟩
  have e2 : ((n : Int) == 66) = false := ne_beq h2
  go_enter Tryz.func34, Tryz.ntmps34
  go_wp2_with fail
  go_ret
  exact ⟨rfl, rfl⟩
theorem numberOf_any (b : Nat) (c : UInt8) (w : World) : Calls Tryz.prog 35 #[.pointer (some ⟨b, 0, none⟩), .int .i32 (c.toNat : Nat)] w fun e w' => e = .returned (.pointer ((nOff c).map fun o => ⟨b, o, none⟩)) ∧ w = w' := by
  unfold nOff
  generalize c.toNat = n
  by_cases h1 : n = 78
  · subst h1
    go_enter Tryz.func35, Tryz.ntmps35
    go_wp2_with fail
    go_ret
    exact ⟨rfl, rfl⟩
  have e1 : ((n : Int) == 78) = false := ne_beq h1
  by_cases h2 : n = 77
  · subst h2
    go_enter Tryz.func35, Tryz.ntmps35
    go_wp2_with fail
    go_ret
    exact ⟨rfl, rfl⟩
  have e2 : ((n : Int) == 77) = false := ne_beq h2
  by_cases h3 : n = 65
  · subst h3
    go_enter Tryz.func35, Tryz.ntmps35
    go_wp2_with fail
    go_ret
    exact ⟨rfl, rfl⟩
  have e3 : ((n : Int) == 65) = false := ne_beq h3
  by_cases h4 : n = 70
  · subst h4
    go_enter Tryz.func35, Tryz.ntmps35
    go_wp2_with fail
    go_ret
    exact ⟨rfl, rfl⟩
  have e4 : ((n : Int) == 70) = false := ne_beq h4
  go_enter Tryz.func35, Tryz.ntmps35
  go_wp2_with fail
  go_ret
  exact ⟨rfl, rfl⟩
/-! ### the faults' words -/
def KT : List (Int × List UInt8) := [(1, [100, 114, 111, 112]), (2, [99, 117, 116]), (3, [102, 108, 105, 112]), (4, [102, 111, 114, 103, 101]), (5, [108, 97, 116, 101]), (6, [103, 111, 110, 101]), (7, [98, 117, 115, 121])]
def wordD (l : List UInt8) : DataW Unit := .lit (.string l)
def KD : DataW Unit := .map (KT.map fun p => (Lit.int .i64 p.1, wordD p.2))
theorem intK : Keyed Tryz.prog 3 := int_keyed Tryz.underlying3
def FaultsPost (w : World) (e : Ending) (w' : World) : Prop := ∃ b, e = .returned (.map (some b)) ∧ w'.ownsMap Tryz.prog 3 (plainElem Tryz.prog 9) b 7 KD ∧ w.heap.size ≤ b ∧ Below w.heap.size w w'
theorem wpList_insert_own {H : Type} {P : Program} (w : World) {ops : Array Oper} {rest : List Oper} {o : Oper} {a : Act} {Q : Exit → Act → World → Prop}
    (hg : o.guard = none) (m x v : Operand) (t : TypeId) (hop : o.op = Op.insert t m x v)
    (k e : TypeId) (K : Keyed P k) (ht : P.underlying t = some (.map k e)) (R : Value → Option (DataW H × List MemPlace)) (b n : Nat) (D : DataW H)
    (hm : a.eval m = .map (some b)) (hown : w.ownsMap P k R b n D) (hn : n < maxLen) (key val : Value) (kl : Lit) (hx : a.eval x = key) (hv : a.eval v = val) (hkey : keyOf P k key = some kl)
    (d : DataW H) (ps : List MemPlace) (hval : R val = some (d, ps))
    (hK : ∀ w', w'.ownsMap P k R b (n + 1) (D.put kl d) → w.grownBy w' (some b) → wpList P ops Q rest (a.put o.dst undef) w') :
    wpList P ops Q (o :: rest) a w := by
  refine wpList_plain hg fun K' hK' => ?_
  obtain ⟨w', hrun, r1, r2⟩ := hown.update K ht hn hkey hval
  unfold Oper.wp
  simp [execOp, hop, hm, hx, hv, hrun, Result.andThen]
  exact hK' _ _ (hK w' r1 r2)
theorem strE_word (l : List UInt8) (h : l.length ≤ 100) : plainElem (H := Unit) Tryz.prog 9 (.string ⟨l.toArray⟩) = some (wordD l, []) := by
  refine plainElem_string Tryz.underlying9 ?_
  show l.toArray.size ≤ maxLen
  simp [maxLen]; omega
set_option maxHeartbeats 4000000 in
set_option maxRecDepth 100000 in
theorem faults_any (w : World) : Calls Tryz.prog 36 #[] w (FaultsPost w) := by
  have hmm := @run_makeMap Tryz.prog
  obtain ⟨P, hP⟩ : ∃ P, P = FaultsPost w := ⟨_, rfl⟩
  rw [← hP]
  have HP := Lib.hid hP
  clear hP
  have h0 := World.ownsMap_made (H := Unit) w Tryz.prog 3 (plainElem Tryz.prog 9)
  have g0 := World.grownBy_alloc w (.map #[] 0) (some w.heap.size)
  obtain ⟨w1, r1, h1, g⟩ := h0.update intK Tryz.underlying93 (by decide) (key := .int .i64 1) (val := .string ⟨#[100, 114, 111, 112]⟩) (keyOf_int_mk Tryz.underlying3 (WalkArith.wf_i64 (by decide))) (strE_word [100, 114, 111, 112] (by decide))
  have g1 := g0.trans g
  clear g g0 h0
  obtain ⟨w2, r2, h2, g⟩ := h1.update intK Tryz.underlying93 (by decide) (key := .int .i64 2) (val := .string ⟨#[99, 117, 116]⟩) (keyOf_int_mk Tryz.underlying3 (WalkArith.wf_i64 (by decide))) (strE_word [99, 117, 116] (by decide))
  have g2 := g1.trans g
  clear g g1 h1
  obtain ⟨w3, r3, h3, g⟩ := h2.update intK Tryz.underlying93 (by decide) (key := .int .i64 3) (val := .string ⟨#[102, 108, 105, 112]⟩) (keyOf_int_mk Tryz.underlying3 (WalkArith.wf_i64 (by decide))) (strE_word [102, 108, 105, 112] (by decide))
  have g3 := g2.trans g
  clear g g2 h2
  obtain ⟨w4, r4, h4, g⟩ := h3.update intK Tryz.underlying93 (by decide) (key := .int .i64 4) (val := .string ⟨#[102, 111, 114, 103, 101]⟩) (keyOf_int_mk Tryz.underlying3 (WalkArith.wf_i64 (by decide))) (strE_word [102, 111, 114, 103, 101] (by decide))
  have g4 := g3.trans g
  clear g g3 h3
  obtain ⟨w5, r5, h5, g⟩ := h4.update intK Tryz.underlying93 (by decide) (key := .int .i64 5) (val := .string ⟨#[108, 97, 116, 101]⟩) (keyOf_int_mk Tryz.underlying3 (WalkArith.wf_i64 (by decide))) (strE_word [108, 97, 116, 101] (by decide))
  have g5 := g4.trans g
  clear g g4 h4
  obtain ⟨w6, r6, h6, g⟩ := h5.update intK Tryz.underlying93 (by decide) (key := .int .i64 6) (val := .string ⟨#[103, 111, 110, 101]⟩) (keyOf_int_mk Tryz.underlying3 (WalkArith.wf_i64 (by decide))) (strE_word [103, 111, 110, 101] (by decide))
  have g6 := g5.trans g
  clear g g5 h5
  obtain ⟨w7, r7, h7, g⟩ := h6.update intK Tryz.underlying93 (by decide) (key := .int .i64 7) (val := .string ⟨#[98, 117, 115, 121]⟩) (keyOf_int_mk Tryz.underlying3 (WalkArith.wf_i64 (by decide))) (strE_word [98, 117, 115, 121] (by decide))
  have g7 := g6.trans g
  clear g g6 h6
  have G7 := Lib.hid g7
  have H7 := Lib.hid h7
  clear g7 h7
  go_enter Tryz.func36, Tryz.ntmps36
  go_wp2_with fail
  rw [HP.out]
  exact ⟨_, rfl, H7.out, Nat.le_refl _, (Below.refl _ _).grown G7.out (Nat.le_refl _) (by simp)⟩
end Go.Proofs.YtlljjddgbilipaaGreatDoor
