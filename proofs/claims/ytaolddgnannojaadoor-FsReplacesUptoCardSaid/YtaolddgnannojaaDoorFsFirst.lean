/-
  first: the chapter's example.
-/
import Derived.Test.YtaolddgnannojaaDoorFsTold
import Derived.Lib.SlBytesConst
namespace Go.Proofs.YtaolddgnannojaaDoor
open Go.RowKit Go.Maps

attribute [local go_sem] lt1 lt2 lt3 lt4 lt5 lt6

def fS0 : FsSt := newS 10
def fS1 : FsSt := (fS0.write ⟨#[97]⟩ [97, 98, 99]).2
def fS2 : FsSt := (fS1.write ⟨#[47, 97]⟩ [120]).2
def fS3 : FsSt := (fS2.append ⟨#[98]⟩ [120]).2
def fS4 : FsSt := (fS3.write ⟨#[100, 47, 98]⟩ [49, 50, 51, 52, 53, 54, 55, 56]).2
def fS5 : FsSt := (fS4.sync ⟨#[97]⟩).2
def fS6 : FsSt := (fS5.syncdir ⟨#[]⟩).2
theorem fE1 : (fS0.write ⟨#[97]⟩ [97, 98, 99]).1 = 0 := by kernel_rfl
theorem fE2 : (fS1.write ⟨#[47, 97]⟩ [120]).1 = 1 := by kernel_rfl
theorem fE3 : (fS2.append ⟨#[98]⟩ [120]).1 = 2 := by kernel_rfl
theorem fE4 : (fS3.write ⟨#[100, 47, 98]⟩ [49, 50, 51, 52, 53, 54, 55, 56]).1 = 4 := by kernel_rfl
theorem fE5 : (fS4.sync ⟨#[97]⟩).1 = 0 := by kernel_rfl
theorem fE6 : (fS5.syncdir ⟨#[]⟩).1 = 0 := by kernel_rfl
theorem fK : strKeys fS6.dur = [[97]] := by kernel_rfl
theorem fD6 : durNo fS6.files (nget fS6.dur ⟨#[97]⟩) = [97, 98, 99] := by kernel_rfl
theorem fL : fS6.durL = [(⟨#[97]⟩, [97, 98, 99])] := by
  unfold FsSt.durL keysOf
  rw [fK, List.mergeSort_singleton]
  show [(mkS [97], durNo fS6.files (nget fS6.dur (mkS [97])))] = _
  have : mkS [97] = ⟨#[97]⟩ := rfl
  rw [this, fD6]
theorem Bs_made (w : World) (x : List UInt8) (fr : Nat × Nat) (hl : x.length ≤ maxLen) : Bs (w.alloc (.cells (u8s x).toArray 5 fr)) (some ⟨w.heap.size, 0, none⟩) x.length x := by
  refine ⟨by simp [u8s], by simp, Nat.le_refl _, hl, fun _ => ⟨w.heap.size, 0, rfl, fun j hj => ?_⟩⟩
  have := heap_alloc_new w (.cells (u8s x).toArray 5 fr)
  show (match (w.alloc (.cells (u8s x).toArray 5 fr)).heap[w.heap.size]? with | some (.cells c _ _) => c[0 + j]? | _ => none) = _
  rw [this]
  simp
theorem Out.new {K : Nat} {w : World} {M : FsMem} {S : FsSt} (h : FsUp K w M S) (d : List UInt8) : Out M (some ⟨w.heap.size, 0, none⟩) d := fun _ a ha hh => by
  cases ha
  have := h.at_.lt _ hh
  simp at this
/-- bytes made beside it are written -/
theorem made_write {K : Nat} {w : World} {M : FsMem} {S : FsSt} (h : FsUp K w M S) (name : ByteArray) (hn : name.size ≤ 1048576) (d : List UInt8) (fr : Nat × Nat) (hK : K + 2 + d.length ≤ 1048576) :
    Calls Tryd.prog 11 #[.pointer (some ⟨M.fb, 0, none⟩), .string name, .slice (some ⟨w.heap.size, 0, none⟩) d.length d.length] (w.alloc (.cells (u8s d).toArray 5 fr)) (UpPost (K + 2 + d.length) w M (S.write name d).2 (S.write name d).1) := by
  have hb : Below w.heap.size w (w.alloc (.cells (u8s d).toArray 5 fr)) := (Below.refl _ _).alloc (Nat.le_refl _) _
  refine (up_write (h.below hb) name hn d hK _ _ (Bs_made w d fr (by unfold maxLen; omega)) (Out.new h d)).mono ?_
  rintro e w' ⟨rfl, M', h1, h2⟩
  exact ⟨rfl, M', h1, (Gr.of_below hb).trans h2⟩
theorem made_append {K : Nat} {w : World} {M : FsMem} {S : FsSt} (h : FsUp K w M S) (name : ByteArray) (hn : name.size ≤ 1048576) (d : List UInt8) (fr : Nat × Nat) (hK : K + 2 + d.length ≤ 1048576) :
    Calls Tryd.prog 13 #[.pointer (some ⟨M.fb, 0, none⟩), .string name, .slice (some ⟨w.heap.size, 0, none⟩) d.length d.length] (w.alloc (.cells (u8s d).toArray 5 fr)) (UpPost (K + 2 + d.length) w M (S.append name d).2 (S.append name d).1) := by
  have hb : Below w.heap.size w (w.alloc (.cells (u8s d).toArray 5 fr)) := (Below.refl _ _).alloc (Nat.le_refl _) _
  refine (up_append (h.below hb) name hn d hK _ _ (Bs_made w d fr (by unfold maxLen; omega)) (Out.new h d)).mono ?_
  rintro e w' ⟨rfl, M', h1, h2⟩
  exact ⟨rfl, M', h1, (Gr.of_below hb).trans h2⟩
/-- what a file system made here has turned lies all above -/
theorem Gr.above {M M' : FsMem} {w0 w w' : World} (h : Gr M w M' w') (hb : Below w0.heap.size w0 w) (ho : ∀ k, k ∈ M.own → w0.heap.size ≤ k) : Below w0.heap.size w0 w' ∧ ∀ k, k ∈ M'.own → w0.heap.size ≤ k := by
  have hs := hb.size
  refine ⟨hb.trans (h.fr.below hs ho), fun k hk => ?_⟩
  rcases h.new k hk with h1 | h1
  · exact ho k h1
  · omega
set_option maxHeartbeats 8000000 in
set_option maxRecDepth 10000 in
theorem first_any (w : World) (hm : MaxL w) : Calls Tryd.prog 9 #[] w fun e w' => e = .returned (.bool true) ∧ Below w.heap.size w w' := by
  have HM := Lib.hid hm
  have kc := fun (w : World) (C : Array Value) (n c : Nat) => Lib.run_convert_bytes_const (P := Tryd.prog) w 22 5 C n c Tryd.underlying22 Tryd.underlying5
  clear hm
  go_enter Tryd.func9, Tryd.ntmps9
  go_wp2_with fail
  refine (up_new w HM.out 10).mono ?_
  rintro e w0 ⟨M0, rfl, h0, hb0, ho0⟩
  have H0 := Lib.hid (show FsUp 0 w0 M0 fS0 from h0)
  have HB0 := Lib.hid (And.intro hb0 ho0)
  clear h0 hb0 ho0
  go_wp2_with fail
  refine (made_write H0.out ⟨#[97]⟩ (by decide) [97, 98, 99] (3, 4) (by decide)).mono ?_
  rintro e w1 ⟨rfl, M1, h1, g1⟩
  rw [fE1]
  rw [show M0.fb = M1.fb from g1.fb.symm]
  have HB1 := Lib.hid (g1.above HB0.out.1 HB0.out.2)
  have H1 := Lib.hid (show FsUp _ w1 M1 fS1 from h1)
  clear h1 g1
  go_wp2_with fail
  refine (made_write H1.out ⟨#[47, 97]⟩ (by decide) [120] (1, 2) (by decide)).mono ?_
  rintro e w2 ⟨rfl, M2, h2, g2⟩
  rw [fE2]
  rw [show M1.fb = M2.fb from g2.fb.symm]
  have HB2 := Lib.hid (g2.above HB1.out.1 HB1.out.2)
  have H2 := Lib.hid (show FsUp _ w2 M2 fS2 from h2)
  clear h2 g2
  go_wp2_with fail
  refine (made_append H2.out ⟨#[98]⟩ (by decide) [120] (1, 2) (by decide)).mono ?_
  rintro e w3 ⟨rfl, M3, h3, g3⟩
  rw [fE3]
  rw [show M2.fb = M3.fb from g3.fb.symm]
  have HB3 := Lib.hid (g3.above HB2.out.1 HB2.out.2)
  have H3 := Lib.hid (show FsUp _ w3 M3 fS3 from h3)
  clear h3 g3
  go_wp2_with fail
  refine (made_write H3.out ⟨#[100, 47, 98]⟩ (by decide) [49, 50, 51, 52, 53, 54, 55, 56] (8, 9) (by decide)).mono ?_
  rintro e w4 ⟨rfl, M4, h4, g4⟩
  rw [fE4]
  rw [show M3.fb = M4.fb from g4.fb.symm]
  have HB4 := Lib.hid (g4.above HB3.out.1 HB3.out.2)
  have H4 := Lib.hid (show FsUp _ w4 M4 fS4 from h4)
  clear h4 g4
  go_wp2_with fail
  refine (up_sync H4.out ⟨#[97]⟩ (by decide) (by decide)).mono ?_
  rintro e w5 ⟨rfl, M5, h5, g5⟩
  rw [fE5]
  rw [show M4.fb = M5.fb from g5.fb.symm]
  have HB5 := Lib.hid (g5.above HB4.out.1 HB4.out.2)
  have H5 := Lib.hid (show FsUp _ w5 M5 fS5 from h5)
  clear h5 g5
  go_wp2_with fail
  refine (up_syncdir H5.out ⟨#[]⟩ (by decide) (by decide)).mono ?_
  rintro e w6 ⟨rfl, M6, h6, g6⟩
  rw [fE6]
  rw [show M5.fb = M6.fb from g6.fb.symm]
  have HB6 := Lib.hid (g6.above HB5.out.1 HB5.out.2)
  have H6 := Lib.hid (show FsUp _ w6 M6 fS6 from h6)
  clear h6 g6
  go_wp2_with fail
  refine (durable_any w6 M6 fS6 _ H6.out.at_ H6.out.good (by decide)).mono ?_
  rintro e w7 ⟨v, rfl, hfm, hb7⟩
  rw [fL] at hfm
  obtain ⟨A7, c7, hv, hf7⟩ := hfm.own.files
  subst hv
  obtain ⟨b, o, Ai, ci, hA, d0, d1, hbs⟩ := hf7.at_ (show 0 < 1 by decide)
  subst hA
  have hs := str_of_bs hbs
  have HB7 := Lib.hid (HB6.out.1.trans (hb7.mono HB6.out.1.size))
  clear hf7 hfm hb7
  simp only [List.getD_cons_zero, Nat.zero_mul, Nat.add_zero] at d0 d1 hs
  change (convert 22 9 (.slice Ai 3 ci)).run Tryd.prog w7 = .ok (.string ⟨#[97, 98, 99]⟩) w7 at hs
  change w7.cell? ⟨b, o + 1, none⟩ = some (.slice Ai 3 ci) at d1
  clear hbs
  go_wp2_with fail
  refine (num_any _ _).mono ?_
  rintro e w8 ⟨rfl, rfl⟩
  go_wp2_with fail
  refine (num_any _ _).mono ?_
  rintro e w8 ⟨rfl, rfl⟩
  go_wp2_with fail
  refine (num_any _ _).mono ?_
  rintro e w8 ⟨rfl, rfl⟩
  go_wp2_with fail
  refine (num_any _ _).mono ?_
  rintro e w8 ⟨rfl, rfl⟩
  go_wp2_with fail
  refine (num_any _ _).mono ?_
  rintro e w8 ⟨rfl, rfl⟩
  go_wp2_with fail
  refine (num_any _ _).mono ?_
  rintro e w8 ⟨rfl, rfl⟩
  go_wp2_with fail
  go_ret
  exact ⟨rfl, HB7.out⟩
end Go.Proofs.YtaolddgnannojaaDoor
