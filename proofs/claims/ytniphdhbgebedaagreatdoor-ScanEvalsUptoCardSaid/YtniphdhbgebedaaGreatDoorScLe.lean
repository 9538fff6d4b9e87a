/-
  The reference's Eval; the law ScanEvals.
-/
import Derived.Test.YtniphdhbgebedaaGreatDoorScRz
namespace Go.Proofs.YtniphdhbgebedaaGreatDoor
open Go.RowKit

set_option linter.unusedSimpArgs false

set_option linter.unusedSimpArgs false

attribute [local go_sem] lt1 lt2 lt3 lt4 lt5 lt6

theorem rpar_any (p : Nat) (T : List ByteArray) (A : Option Addr) (cp : Nat) (hTl : T.length ≤ 1048576) : ∀ (L : Nat) (x : World) (s : List UInt8), s.length ≤ L → s.length ≤ 1048576 → XAt x p s (.slice A T.length cp) true → (∀ y, Fr [p] x y → Sl y A cp T.length 1 (txV T)) →
    Calls Tryz.prog 37 #[.pointer (some ⟨p, 0, none⟩)] x (RxPost p (.slice A T.length cp) (hasT T) 2 s x) := by
  intro L
  induction L with
  | zero =>
    intro x s h1 h2 hX hT
    refine ror_any x p T A cp s hX h2 fun y s' hl hX' hF => rand_any y p T A cp s' hX' (by omega) fun z s'' hl' hX'' hF' => rnot_any z p T A cp s'' hX'' (by omega) (fun u hu => hT u ((hF.trans hF').trans hu)) hTl fun _ _ h _ _ => by omega
  | succ L ih =>
    intro x s h1 h2 hX hT
    refine ror_any x p T A cp s hX h2 fun y s' hl hX' hF => rand_any y p T A cp s' hX' (by omega) fun z s'' hl' hX'' hF' => rnot_any z p T A cp s'' hX'' (by omega) (fun u hu => hT u ((hF.trans hF').trans hu)) hTl fun u s3 h hX3 hF3 => ih u s3 (by omega) (by omega) hX3 (fun v hv => hT v (((hF.trans hF').trans hF3).trans hv))
theorem below_fr {B p : Nat} {w x y : World} (hb : Below B w x) (hF : Fr [p] x y) (hp : B ≤ p) (hB : B ≤ x.heap.size) : Below B w y :=
  ⟨hF.os.trans hb.os, hF.tape.trans hb.tape, hF.output.trans hb.output, Nat.le_trans hb.size hF.size, fun k hk => (hF.block k (by omega) (by simp; omega)).trans (hb.block k hk)⟩
theorem all_blank (r : List UInt8) : skipB r = [] ↔ r.all blankB = true := by
  unfold skipB
  induction r with
  | nil => simp
  | cons c t ih =>
    by_cases h : blankB c = true
    · rw [List.dropWhile_cons_of_pos h, ih]; simp [h]
    · rw [List.dropWhile_cons_of_neg h]; simp [h]
set_option maxRecDepth 100000 in
set_option maxHeartbeats 16000000 in
theorem reval_any (w : World) (s : List UInt8) (A : Option Addr) (c : Nat) (T : List ByteArray) (hS : Sl w A c T.length 1 (txV T)) (hl : T.length ≤ 1048576) :
    Calls Tryz.prog 18 #[.string (mkS s), .slice A T.length c] w (EvPost w s (hasT T)) := by
  obtain ⟨RP, hRP⟩ : ∃ RP, RP = EvPost w s (hasT T) := ⟨_, rfl⟩
  rw [← hRP]
  have HRP := Lib.hid hRP
  have hSz : (mkS s).size = s.length := by simp [mkS, ByteArray.size]
  by_cases h1 : 1000 < s.length
  · have h1I : ((mkS s).size : Int) > 1000 := by rw [hSz]; omega
    have HE : Hid (RP (.returned (.tuple #[.bool false, .int .i64 13])) w) := Lib.hid (by rw [HRP.out]; exact ⟨_, _, rfl, .inl ⟨h1, rfl, rfl⟩, Below.refl _ _⟩)
    generalize mkS s = S at *
    clear hRP h1 hSz
    go_enter Tryz.func18, Tryz.ntmps18
    go_wp2_with fail
    exact HE.out
  have h1I : ¬ ((mkS s).size : Int) > 1000 := by rw [hSz]; omega
  obtain ⟨x0, hx0⟩ : ∃ x, w.alloc (.cells #[.string (mkS s), .slice A T.length c, .bool true] 78) = x := ⟨_, rfl⟩
  have B0 : Below w.heap.size w x0 := by rw [← hx0]; exact (Below.refl _ w).alloc (Nat.le_refl _) _
  have hX0 : XAt x0 w.heap.size s (.slice A T.length c) true := by rw [← hx0]; exact heap_alloc_new _ _
  have hbf : ∀ y, Fr [w.heap.size] x0 y → Below w.heap.size w y := fun y hF => below_fr B0 hF (Nat.le_refl _) B0.size
  have hor := rpar_any w.heap.size T A c hl s.length x0 s (Nat.le_refl _) (by omega) hX0 (fun y hF => hS.keep (Cells.of_below (hbf y hF)))
  have HBf := Lib.hid hbf
  have HO := Lib.hid hor
  have HX := Lib.hid hx0
  have h1N : s.length ≤ 1000 := by omega
  obtain ⟨S, hSS⟩ : ∃ S, mkS s = S := ⟨_, rfl⟩
  rw [hSS] at h1I HX ⊢
  clear hRP hSz hx0 B0 hX0 hbf hor hSS h1 hS
  go_enter Tryz.func18, Tryz.ntmps18
  go_wp2_with fail
  rw [HX.out]
  refine HO.out.mono ?_
  rintro e y ⟨b, rfl, hF, ⟨a, r, hpar, hb, hXy⟩ | ⟨r, s', hpar, hsl, hXy⟩⟩
  · have hrl : r.length ≤ s.length := (tags_in hpar).1.length_le
    have hbk := blanks_any y w.heap.size r _ true hXy (by omega)
    have HBk := Lib.hid hbk
    have HF := Lib.hid hF
    have Hpar := Lib.hid hpar
    have Hb := Lib.hid hb
    clear hpar hb hXy hF hbk HO HX
    go_wp2_with fail
    refine HBk.out.mono ?_
    rintro e z ⟨⟨u, rfl⟩, hXz, hFz⟩
    have c0 : z.cell? ⟨w.heap.size, 0, none⟩ = some (.string (mkS (skipB r))) := (blk_cells hXz).1 0
    have c2 : z.cell? ⟨w.heap.size, 2, none⟩ = some (.bool true) := (blk_cells hXz).1 2
    have hBz := HBf.out z (HF.out.trans hFz)
    by_cases hall : r.all blankB = true
    · rw [(all_blank r).2 hall, show mkS [] = ⟨#[]⟩ from rfl] at c0
      have HE : Hid (RP (.returned (.tuple #[.bool b, .int .i64 0])) z) := Lib.hid (by rw [HRP.out]; exact ⟨_, _, rfl, .inr (.inr ⟨h1N, a, ⟨r, Hpar.out, hall⟩, Hb.out, rfl⟩), hBz⟩)
      clear hall hBz hXz hFz
      go_wp2_with fail
      exact HE.out
    · have HE : Hid (RP (.returned (.tuple #[.bool false, .int .i64 11])) z) := Lib.hid (by
        rw [HRP.out]
        refine ⟨_, _, rfl, .inr (.inl ⟨h1N, fun ⟨x, r', hp', ha'⟩ => ?_, rfl, rfl⟩), hBz⟩
        obtain ⟨_, rfl⟩ := Hpar.out.det hp'
        exact hall ha')
      have hne : (mkS (skipB r)).toList.isEmpty = false := by
        rw [toList_toL, toL_mkS]
        cases hk : skipB r with
        | nil => exact absurd ((all_blank r).1 hk) hall
        | cons _ _ => rfl
      generalize mkS (skipB r) = R at *
      clear hall hBz hXz hFz
      go_wp2_with fail
      exact HE.out
  · have hbk := blanks_any y w.heap.size s' _ false hXy (by omega)
    have HBk := Lib.hid hbk
    have HF := Lib.hid hF
    have Hpar := Lib.hid hpar
    clear hpar hXy hF hbk HO HX
    go_wp2_with fail
    refine HBk.out.mono ?_
    rintro e z ⟨⟨u, rfl⟩, hXz, hFz⟩
    have c2 : z.cell? ⟨w.heap.size, 2, none⟩ = some (.bool false) := (blk_cells hXz).1 2
    have hBz := HBf.out z (HF.out.trans hFz)
    have HE : Hid (RP (.returned (.tuple #[.bool false, .int .i64 11])) z) := Lib.hid (by
      rw [HRP.out]
      refine ⟨_, _, rfl, .inr (.inl ⟨h1N, fun ⟨x, r', hp', _⟩ => ?_, rfl, rfl⟩), hBz⟩
      have := (Hpar.out.det hp').1
      cases this)
    clear hBz hXz hFz
    go_wp2_with fail
    exact HE.out
theorem ev_det {s : List UInt8} {has : List UInt8 → Bool} {B B' : Bool} {E E' : Int} (h : EvIs s has B E) (h' : EvIs s has B' E') : B = B' ∧ E = E' := by
  rcases h with ⟨h1, rfl, rfl⟩ | ⟨h1, h2, rfl, rfl⟩ | ⟨h1, x, h2, rfl, rfl⟩ <;> rcases h' with ⟨k1, rfl, rfl⟩ | ⟨k1, k2, rfl, rfl⟩ | ⟨k1, y, k2, rfl, rfl⟩ <;> first | exact ⟨rfl, rfl⟩ | omega | (exact absurd ⟨_, k2⟩ h2) | (exact absurd ⟨_, h2⟩ k2) | (rw [whole_det h2 k2]; exact ⟨rfl, rfl⟩)
def LePost (w : World) (e : Ending) (w' : World) : Prop := e = .returned (.bool true) ∧ Below w.heap.size w w'
set_option maxRecDepth 100000 in
set_option maxHeartbeats 16000000 in
theorem evals_any (w : World) (hg : Glob w) (a : ByteArray) (A : Option Addr) (c : Nat) (T : List ByteArray) (hS : Sl w A c T.length 1 (txV T)) (hl : T.length ≤ 1048576) (hz : ∀ t ∈ T, t.size ≤ 1048576) (ha : a.size ≤ 1048576) :
    Calls Tryz.prog 4 #[.string a, .slice A T.length c] w (LePost w) := by
  have hfi := first_any w hg
  have HF := Lib.hid hfi
  have HS := Lib.hid hS
  have HZ := Lib.hid hz
  obtain ⟨RP, hRP⟩ : ∃ RP, RP = LePost w := ⟨_, rfl⟩
  rw [← hRP]
  have HRP := Lib.hid hRP
  clear hS hz hRP hfi hg
  go_enter Tryz.func4, Tryz.ntmps4
  go_wp2_with fail
  refine HF.out.mono ?_
  rintro e w1 ⟨rfl, hB1⟩
  have hS1 := HS.out.keep (Cells.of_below hB1)
  have hfew := few_any w1 A c T hS1 hl HZ.out
  have HB1 := Lib.hid hB1
  have HS1 := Lib.hid hS1
  have HW := Lib.hid hfew
  have HOK : Hid (RP (.returned (.bool true)) w1) := Lib.hid (by rw [HRP.out]; exact ⟨rfl, HB1.out⟩)
  clear hB1 hS1 hfew HF
  go_wp2_with fail
  refine HW.out.mono ?_
  rintro e w2 ⟨bb, rfl, hbl, rfl⟩
  clear hbl HW
  cases bb with
  | false =>
    go_wp2_with fail
    exact HOK.out
  | true =>
  by_cases ha1 : ((a.size : Int) > 1100)
  · go_wp2_with fail
    exact HOK.out
  have hev := eval_any w2 (toL a) A c T HS1.out hl
  rw [mkS_toL] at hev
  have HEv := Lib.hid hev
  clear hev HOK
  go_wp2_with fail
  refine HEv.out.mono ?_
  rintro e w3 ⟨B, E, rfl, hE, hB3⟩
  have HB3 := Lib.hid (HB1.out.trans (hB3.mono HB1.out.size))
  have hev := reval_any w3 (toL a) A c T (HS1.out.keep (Cells.of_below hB3)) hl
  rw [mkS_toL] at hev
  have HEv2 := Lib.hid hev
  have HE1 := Lib.hid hE
  clear hev hE hB3 HEv
  go_wp2_with fail
  refine HEv2.out.mono ?_
  rintro e w4 ⟨B', E', rfl, hE', hB4⟩
  obtain ⟨rfl, rfl⟩ := ev_det HE1.out hE'
  have HOK : Hid (RP (.returned (.bool true)) w4) := Lib.hid (by rw [HRP.out]; exact ⟨rfl, HB3.out.trans (hB4.mono HB3.out.size)⟩)
  clear hE' hB4 HE1 HEv2
  go_wp2_with (go_at_call 14; refine (num_any _ _).mono ?_; rintro e y ⟨rfl, rfl⟩)
  exact HOK.out
end Go.Proofs.YtniphdhbgebedaaGreatDoor
