/-
  The laws' first().
-/
import Derived.Test.YtniphdhbgebedaaGreatDoorScFi0
namespace Go.Proofs.YtniphdhbgebedaaGreatDoor
open Go.RowKit

set_option linter.unusedSimpArgs false

set_option linter.unusedSimpArgs false

attribute [local go_sem] lt1 lt2 lt3 lt4 lt5 lt6

theorem whole_det {s : List UInt8} {x y : Ex} (h : Whole s x) (k : Whole s y) : x = y := by
  obtain ⟨r, h1, _⟩ := h
  obtain ⟨r', h2, _⟩ := k
  have := (h1.det h2).1
  cases this
  rfl
theorem ft3_whole : Whole ft3 (.and (.tag [97]) (.or (.tag [98]) (.not (.tag [99])))) := by
  refine ⟨[], ?_, rfl⟩
  refine .first (s1 := []) (and2 (u := [32, 38, 38, 32, 40, 98, 32, 124, 124, 32, 33, 99, 41]) (v := [32, 40, 98, 32, 124, 124, 32, 33, 99, 41]) (r := []) ?_ rfl ?_ rfl) (.stop rfl)
  · exact Par.tag (s1 := ft3) (s2 := ft3) rfl rfl (by decide)
  · refine .paren (s1 := [40, 98, 32, 124, 124, 32, 33, 99, 41]) (s2 := [98, 32, 124, 124, 32, 33, 99, 41]) (s3 := [41]) rfl rfl (or2 (u := [124, 124, 32, 33, 99, 41]) (v := [32, 33, 99, 41]) (r := [41]) (r' := [41]) ?_ rfl ?_ rfl) rfl
    · exact up1 (Par.tag (s1 := [98, 32, 124, 124, 32, 33, 99, 41]) (s2 := [98, 32, 124, 124, 32, 33, 99, 41]) rfl rfl (by decide)) rfl
    · exact up1 (.bang (s1 := [99, 41]) rfl (Par.tag (s1 := [99, 41]) (s2 := [99, 41]) rfl rfl (by decide))) rfl
theorem ft3_eval {B : Bool} {E : Int} (h : EvIs ft3 (hasT [mkS [97]]) B E) : B = true ∧ E = 0 := by
  rcases h with ⟨h, _⟩ | ⟨_, h, _⟩ | ⟨_, x, h, rfl, rfl⟩
  · exact absurd h (by decide)
  · exact absurd ⟨_, ft3_whole⟩ h
  · rw [whole_det h ft3_whole]
    exact ⟨by decide, rfl⟩
set_option maxRecDepth 100000 in
set_option maxHeartbeats 16000000 in
theorem first_any (w : World) (hg : Glob w) : Calls Tryz.prog 10 #[] w fun e w' => e = .returned (.bool true) ∧ Below w.heap.size w w' := by
  have h1 := read_any w ft1 hg
  rw [ft1_read] at h1
  have H1 := Lib.hid h1
  have Hg := Lib.hid hg
  clear h1 hg
  go_enter Tryz.func10, Tryz.ntmps10
  go_wp2_with fail
  refine H1.out.mono ?_
  rintro e w1 ⟨A, c, rfl, hS, hB⟩
  have e1 : ((mkS [97]).toList == [97]) = true := by rw [toList_toL, toL_mkS]; rfl
  have e2 : ((mkS fr1).toList == [108, 105, 110, 117, 120, 32, 38, 38, 32, 33, 97, 114, 109, 54, 52]) = true := by rw [toList_toL, toL_mkS]; rfl
  obtain ⟨S1, hS1⟩ : ∃ S, mkS [97] = S := ⟨_, rfl⟩
  obtain ⟨S2, hS2⟩ : ∃ S, mkS fr1 = S := ⟨_, rfl⟩
  have hSl : Sl w1 A c 2 1 ([⟨#[98, 46, 99, 47, 100]⟩, ⟨#[102, 109, 116]⟩].map Value.string) := hS.1
  unfold srcV
  simp only [hS1, hS2, show [fi1, fi2].length = 2 from rfl] at e1 e2 ⊢
  have HSl := Lib.hid hSl
  have HB := Lib.hid hB
  have h2 := fun (y : World) (hB : Below w.heap.size w y) => read_any y ft2 (Hg.out.below hB Hg.out.pos)
  rw [ft2_read] at h2
  have H2 := Lib.hid h2
  clear hS hSl hB hS1 hS2 h2
  go_wp2_with fail
  obtain ⟨w2, hw2⟩ : ∃ z, w1.alloc (.cells #[.string S1, .slice A 2 c, .string S2] 27) = z := ⟨_, rfl⟩
  have hB12 : Below w1.heap.size w1 w2 := by rw [← hw2]; exact (Below.refl _ w1).alloc (Nat.le_refl _) _
  have hq2 : w2.heap[w1.heap.size]? = some (.cells #[.string S1, .slice A 2 c, .string S2] 27 (0, 0)) := by rw [← hw2]; exact heap_alloc_new _ _
  have hB2 := HB.out.trans (hB12.mono HB.out.size)
  have hSl2 := HSl.out.keep (Cells.of_below hB12)
  have h2' := H2.out w2 hB2
  have HB2 := Lib.hid hB2
  have HSl2 := Lib.hid hSl2
  have Hq2 := Lib.hid hq2
  have H2' := Lib.hid h2'
  rw [hw2]
  clear hw2 hB12 hq2 hB2 hSl2 h2' HSl HB H2
  refine H2'.out.mono ?_
  rintro e w3 ⟨A3, c3, rfl, _, hB3⟩
  unfold srcV
  simp only [src0, List.length_nil]
  obtain ⟨w4, hw4⟩ : ∃ z, (w3.alloc (.cells #[.string (mkS []), .slice A3 0 c3, .string (mkS [])] 27)).alloc (.cells #[.string ⟨#[97]⟩] 9) = z := ⟨_, rfl⟩
  have hB34 : Below w3.heap.size w3 w4 := by rw [← hw4]; exact ((Below.refl _ w3).alloc (Nat.le_refl _) _).alloc (by simp) _
  have hB24 := hB3.trans (hB34.mono hB3.size)
  have hT : Sl w4 (some ⟨w3.heap.size + 1, 0, none⟩) 1 1 1 (txV [mkS [97]]) := by
    have := heap_alloc_new (w3.alloc (.cells #[.string (mkS []), .slice A3 0 c3, .string (mkS [])] 27)) (.cells #[.string ⟨#[97]⟩] 9)
    rw [World.size_alloc, hw4] at this
    exact ⟨rfl, by simp, Nat.le_refl _, by unfold maxLen; omega, fun _ => ⟨_, 0, rfl, fun j hj => by rw [World.cell?, this]; simp [txV, mkS]⟩⟩
  have hev := eval_any w4 ft3 _ 1 [mkS [97]] hT (by simp)
  have HB24 := Lib.hid hB24
  have HEv := Lib.hid hev
  have HW4 := Lib.hid hw4
  clear hB3 hB34 hB24 hT hev hw4
  go_wp2_with fail
  rw [HW4.out]
  refine HEv.out.mono ?_
  rintro e w5 ⟨B, E, rfl, hEv, hB5⟩
  obtain ⟨rfl, rfl⟩ := ft3_eval hEv
  have hB25 := HB24.out.trans (hB5.mono HB24.out.size)
  have hq5 := (hB25.block _ (lt_of_heap Hq2.out)).trans Hq2.out
  have s0 : w5.cell? ⟨w1.heap.size, 0, none⟩ = some (.string S1) := (blk_cells hq5).1 0
  have s1 : w5.cell? ⟨w1.heap.size, 1, none⟩ = some (.slice A 2 c) := (blk_cells hq5).1 1
  have s2 : w5.cell? ⟨w1.heap.size, 2, none⟩ = some (.string S2) := (blk_cells hq5).1 2
  have hql := lt_of_heap hq5
  obtain ⟨w6, hw6⟩ : ∃ z, w5.alloc (.cells #[.string ⟨#[98, 46, 99, 47, 100]⟩, .string ⟨#[102, 109, 116]⟩] 9) = z := ⟨_, rfl⟩
  have hB56 : Below w5.heap.size w5 w6 := by rw [← hw6]; exact (Below.refl _ w5).alloc (Nat.le_refl _) _
  have t2 : w6.cell? ⟨w1.heap.size, 2, none⟩ = some (.string S2) := below_cell hB56 hql s2
  have hSl6 := HSl2.out.keep ((Cells.of_below hB25).trans (Cells.of_below hB56))
  have hSn : Sl w6 (some ⟨w5.heap.size, 0, none⟩) 2 2 1 ([⟨#[98, 46, 99, 47, 100]⟩, ⟨#[102, 109, 116]⟩].map Value.string) := by
    have := heap_alloc_new w5 (.cells #[.string ⟨#[98, 46, 99, 47, 100]⟩, .string ⟨#[102, 109, 116]⟩] 9)
    rw [hw6] at this
    exact ⟨rfl, by simp, Nat.le_refl _, by unfold maxLen; omega, fun _ => ⟨_, 0, rfl, fun j hj => by rw [World.cell?, this]; simp⟩⟩
  have htx := texts_any [⟨#[98, 46, 99, 47, 100]⟩, ⟨#[102, 109, 116]⟩] [⟨#[98, 46, 99, 47, 100]⟩, ⟨#[102, 109, 116]⟩] A (some ⟨w5.heap.size, 0, none⟩) c 2 w6 hSl6 hSn
  rw [decide_eq_true rfl] at htx
  have hBf : Below w.heap.size w w6 := (HB2.out.trans (hB25.mono HB2.out.size)).trans (hB56.mono (HB2.out.trans (hB25.mono HB2.out.size)).size)
  have HBf := Lib.hid hBf
  have HTx := Lib.hid htx
  have HW6 := Lib.hid hw6
  clear hEv hB5 hB25 hq5 hB56 hSl6 hSn htx hBf hw6 Hq2 HSl2
  go_wp2_with (first
    | (go_at_call 14; refine (num_any _ _).mono ?_; rintro e y ⟨rfl, rfl⟩)
    | (go_at_call 15; rw [HW6.out]; refine HTx.out.mono ?_; rintro e y ⟨rfl, n, hn⟩; rw [hn]))
  go_ret
  exact ⟨rfl, below_drewN HBf.out _⟩
end Go.Proofs.YtniphdhbgebedaaGreatDoor
