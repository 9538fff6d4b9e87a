/-
  The parser of constraints: a tag's bytes, signs; expressions in memory.
-/
import Derived.Test.YtniphdhbgebedaaGreatDoorScPa
namespace Go.Proofs.YtniphdhbgebedaaGreatDoor
open Go.RowKit

set_option linter.unusedSimpArgs false

set_option linter.unusedSimpArgs false

attribute [local go_sem] lt1 lt2 lt3 lt4 lt5 lt6

theorem tagB_iff (c : UInt8) : tagB c = ((decide (c.toNat < 128) && letB c) || digB c || decide (c.toNat = 46)) := by
  rw [letB_iff, digB_iff]
  have h95 : (c = 95) ↔ c.toNat = 95 := ⟨fun h => by rw [h]; rfl, fun h => UInt8.toNat_inj.1 h⟩
  have h46 : (c = 46) ↔ c.toNat = 46 := ⟨fun h => by rw [h]; rfl, fun h => UInt8.toNat_inj.1 h⟩
  unfold tagB
  rw [Bool.eq_iff_iff]
  simp only [Bool.or_eq_true, Bool.and_eq_true, decide_eq_true_eq, beq_iff_eq, le_nat, h95, h46]
  simp only [show (97 : UInt8).toNat = 97 from rfl, show (122 : UInt8).toNat = 122 from rfl, show (65 : UInt8).toNat = 65 from rfl, show (90 : UInt8).toNat = 90 from rfl, show (48 : UInt8).toNat = 48 from rfl, show (57 : UInt8).toNat = 57 from rfl]
  omega
set_option maxRecDepth 100000 in
set_option maxHeartbeats 4000000 in
theorem tagByte_any (c : UInt8) (w : World) : Calls Tryz.prog 161 #[.int .u8 (c.toNat : Int)] w fun e w' => e = .returned (.bool (tagB c)) ∧ w = w' := by
  obtain ⟨b1, hb1⟩ : ∃ b, letB c = b := ⟨_, rfl⟩
  obtain ⟨b2, hb2⟩ : ∃ b, digB c = b := ⟨_, rfl⟩
  have hI : tagB c = ((decide (c.toNat < 128) && b1) || b2 || decide (c.toNat = 46)) := by rw [tagB_iff, hb1, hb2]
  have hl := letter_any c w
  have hd := digit_any c w
  rw [hb1] at hl
  rw [hb2] at hd
  have HI := Lib.hid hI
  have HD := Lib.hid hd
  have HL := Lib.hid hl
  clear hI hd hl hb1 hb2
  generalize c.toNat = n at *
  by_cases h1 : n < 128
  · have i1 : (n : Int) < 128 := by omega
    by_cases h2 : n = 46
    · have i2 : ((n : Int) == 46) = true := by rw [beq_iff_eq]; omega
      have HI2 := Lib.hid (HI.out.trans (by rw [decide_eq_true h1, decide_eq_true h2]))
      clear h1 h2 HI
      cases b1 <;> cases b2 <;>
        (go_enter Tryz.func161, Tryz.ntmps161
         go_wp2_with (first
          | (go_at_call 92; refine HL.out.mono ?_; rintro e y ⟨rfl, rfl⟩)
          | (go_at_call 93; refine HD.out.mono ?_; rintro e y ⟨rfl, rfl⟩))
         go_ret
         exact ⟨ret_bool (by rw [HI2.out]; rfl), rfl⟩)
    · have i2 : ((n : Int) == 46) = false := by rw [beq_eq_false_iff_ne]; omega
      have HI2 := Lib.hid (HI.out.trans (by rw [decide_eq_true h1, decide_eq_false h2]))
      clear h1 h2 HI
      cases b1 <;> cases b2 <;>
        (go_enter Tryz.func161, Tryz.ntmps161
         go_wp2_with (first
          | (go_at_call 92; refine HL.out.mono ?_; rintro e y ⟨rfl, rfl⟩)
          | (go_at_call 93; refine HD.out.mono ?_; rintro e y ⟨rfl, rfl⟩))
         go_ret
         exact ⟨ret_bool (by rw [HI2.out]; rfl), rfl⟩)
  · have i1 : ¬ (n : Int) < 128 := by omega
    have i2 : ((n : Int) == 46) = false := by rw [beq_eq_false_iff_ne]; omega
    have h2 : ¬ n = 46 := by omega
    have HI2 := Lib.hid (HI.out.trans (by rw [decide_eq_false h1, decide_eq_false h2]))
    clear h1 h2 HI
    cases b1 <;> cases b2 <;>
      (go_enter Tryz.func161, Tryz.ntmps161
       go_wp2_with (first
        | (go_at_call 92; refine HL.out.mono ?_; rintro e y ⟨rfl, rfl⟩)
        | (go_at_call 93; refine HD.out.mono ?_; rintro e y ⟨rfl, rfl⟩))
       go_ret
       exact ⟨ret_bool (by rw [HI2.out]; rfl), rfl⟩)
def PrAt (w : World) (b : Nat) (s : List UInt8) : Prop := w.heap[b]? = some (.cells #[.string (mkS s)] 102 (0, 0))
theorem inC_blank : inC ⟨#[32, 9]⟩ = blankB := by
  funext x
  unfold inC blankB
  rw [show toL ⟨#[32, 9]⟩ = [32, 9] from rfl, Bool.eq_iff_iff]
  simp
theorem PrAt.set {w : World} {b : Nat} {s : List UInt8} (h : PrAt w b s) (s' : List UInt8) : PrAt (w.setCell ⟨b, 0, none⟩ (.string (mkS s'))) b s' := by
  unfold PrAt; rw [heap_setCell_at h]; rfl
def SgPost (w : World) (b : Nat) (g s : List UInt8) (e : Ending) (w' : World) : Prop := e = .returned (.bool (signP g s).1) ∧ PrAt w' b (signP g s).2 ∧ Fr [b] w w'
set_option maxRecDepth 100000 in
set_option maxHeartbeats 8000000 in
theorem sign_any (w : World) (b : Nat) (g s : List UInt8) (h : PrAt w b s) (hs : s.length ≤ 1048576) :
    Calls Tryz.prog 136 #[.pointer (some ⟨b, 0, none⟩), .string (mkS g)] w (SgPost w b g s) := by
  have hl := lt_of_heap h
  have cw : w.cell? ⟨b, 0, none⟩ = some (.string (mkS s)) := (blk_cells h).1 0
  have htr := trimLeft_set w (mkS s) (by simpa [mkS, ByteArray.size] using hs) ⟨#[32, 9]⟩ (by decide) (by decide) (by
    intro j c hc
    have : c = 32 ∨ c = 9 := by
      have hm := List.mem_of_getElem? hc
      simpa using hm
    rcases this with rfl | rfl <;> decide)
  rw [inC_blank, toL_mkS] at htr
  have H := Lib.hid h
  have HT := Lib.hid htr
  obtain ⟨S, hS⟩ : ∃ S, mkS s = S := ⟨_, rfl⟩
  obtain ⟨K, hK⟩ : ∃ K, s.dropWhile blankB = K := ⟨_, rfl⟩
  have hsg : signP g s = if g.isPrefixOf K = true then (true, K.drop g.length) else (false, K) := by unfold signP skipB; rw [hK]
  rw [hS] at cw HT
  rw [hK] at HT
  have HSG := Lib.hid hsg
  clear h htr hsg hK hS
  go_enter Tryz.func136, Tryz.ntmps136
  go_wp2_with fail
  refine HT.out.mono ?_
  rintro e y ⟨rfl, hB⟩
  have hy : PrAt y b s := (hB.block b hl).trans H.out
  have hyc := (blk_cells hy).1 0
  have hyf := (blk_cells hy).2.1 0
  have hz := hy.set K
  have hzF : Fr [b] w (y.setCell ⟨b, 0, none⟩ (.string (mkS K))) := (Fr.of_below hB _).trans (Fr.setCell _ _ _ _ (by simp))
  have HZ := Lib.hid hz
  have HZF := Lib.hid hzF
  clear hB hy hz hzF
  go_wp2_with fail
  generalize y.setCell ⟨b, 0, none⟩ (.string (mkS K)) = z at HZ HZF ⊢
  have hcp := Tryz.strings_CutPrefix (mkS K) (mkS g) z
  rw [show (mkS K).data.toList = K from rfl, show (mkS g).data.toList = g from rfl] at hcp
  unfold Lib.trimPrefix Lib.hasPrefix at hcp
  have hzc := (blk_cells HZ.out).1 0
  have hzf := (blk_cells HZ.out).2.1 0
  rcases Bool.eq_false_or_eq_true (g.isPrefixOf K) with hpre | hpre
  · rw [hpre] at hcp
    simp only [if_true] at hcp
    have HSG2 := Lib.hid (HSG.out.trans (by rw [if_pos hpre]))
    have HU := Lib.hid (HZ.out.set (K.drop g.length))
    have HUF := Lib.hid (HZF.out.trans (Fr.setCell [b] z ⟨b, 0, none⟩ (.string (mkS (K.drop g.length))) (by simp)))
    have Hcp := Lib.hid hcp
    clear hcp HSG hpre
    refine Hcp.out.mono ?_
    rintro e y2 ⟨rfl, hy2⟩
    rw [hy2]
    go_wp2_with fail
    go_ret
    refine ⟨by rw [HSG2.out]; rfl, ?_, HUF.out⟩
    rw [HSG2.out]
    exact HU.out
  · rw [hpre] at hcp
    simp only [Bool.false_eq_true, if_false] at hcp
    have HSG2 := Lib.hid (HSG.out.trans (by rw [if_neg (by rw [hpre]; exact Bool.false_ne_true)]))
    have HU := Lib.hid (HZ.out.set K)
    have HUF := Lib.hid (HZF.out.trans (Fr.setCell [b] z ⟨b, 0, none⟩ (.string (mkS K)) (by simp)))
    have Hcp := Lib.hid hcp
    clear hcp HSG hpre
    refine Hcp.out.mono ?_
    rintro e y2 ⟨rfl, hy2⟩
    rw [hy2]
    go_wp2_with fail
    go_ret
    refine ⟨by rw [HSG2.out]; rfl, ?_, HUF.out⟩
    rw [HSG2.out]
    exact HU.out
end Go.Proofs.YtniphdhbgebedaaGreatDoor
