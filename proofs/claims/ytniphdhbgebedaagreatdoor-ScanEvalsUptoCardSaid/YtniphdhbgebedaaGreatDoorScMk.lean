/-
  What makes the reader's steps.
-/
import Derived.Test.YtniphdhbgebedaaGreatDoorScHd0
import Derived.Laws.EntriesVeiled
namespace Go.Proofs.YtniphdhbgebedaaGreatDoor
open Go.RowKit Go.Maps

set_option linter.unusedSimpArgs false

attribute [local go_sem] lt1 lt2 lt3 lt4 lt5 lt6

theorem kE59 : kE 59 = .int .u8 59 := rfl
theorem kE99 : kE 99 = .int .u8 99 := rfl
theorem kE41 : kE 41 = .int .u8 41 := rfl
theorem kE40 : kE 40 = .int .u8 40 := rfl
theorem kE115 : kE 115 = .int .u8 115 := rfl
theorem kE110 : kE 110 = .int .u8 110 := rfl
theorem kE46 : kE 46 = .int .u8 46 := rfl
set_option maxRecDepth 100000 in
set_option maxHeartbeats 8000000 in
theorem behind_any (w : World) (r : Nat) : Calls Tryz.prog 172 #[rP r] w (MkPost w r .behind) := by
  have hmm := @run_makeMap Tryz.prog
  unfold rP
  have HB0 : Hid (Bld w r w.heap.size [] (w.alloc (.map #[] 0))) := Lib.hid (Bld.made (Below.refl _ _))
  go_enter Tryz.func172, Tryz.ntmps172
  go_wp2_with fail
  refine (HB0.out.to_call .inside).mono ?_
  rintro e y1 ⟨v1, rfl, HB1, HH1⟩
  obtain ⟨y2, hr, hB2, _⟩ := HB1.out.step 59 v1 _ HH1.out
  rw [kE59] at hr
  obtain ⟨y3, hr3, hB3, _⟩ := hB2.step 99 _ .stay rfl
  rw [kE99] at hr3
  have HB3 := Lib.hid hB3
  clear hB2 HB1 HH1 HB0 hB3
  go_wp2_with fail
  refine (HB3.out.to_call .ended).mono ?_
  rintro e y4 ⟨v4, rfl, HB4, HH4⟩
  obtain ⟨y5, hr5, hB5, _⟩ := HB4.out.step 41 v4 _ HH4.out
  rw [kE41] at hr5
  have HB5 := Lib.hid hB5
  clear HB4 HH4 HB3 hB5
  go_wp2_with fail
  refine HB5.out.want_call.mono ?_
  rintro e y6 ⟨v6, rfl, HB6, HW6⟩
  go_wp2_with fail
  go_ret
  exact mk_want rfl (by decide) HB6.out HW6.out
theorem Bld.keepHd {w0 x y : World} {r kb : Nat} {v : Value} {d : Hd} (h : HdAt x (PB w0 kb) r v d) (hF : Fr [kb] x y) : HdAt y (PB w0 kb) r v d :=
  h.keep (KeepP.of_fr hF fun j hj => by simp; exact hj.2) fun _ _ h => h
set_option maxRecDepth 100000 in
set_option maxHeartbeats 8000000 in
theorem spec_any (w0 x : World) (r kb : Nat) (m : List (UInt8 × Hd)) (k : Mk) (h : Bld w0 r kb m x) : Calls Tryz.prog 154 #[rP r, .func (.func k.f) #[] #[], .map (some kb)] x fun e y => e = .returned (.map (some kb)) ∧ Hid (Bld w0 r kb (put (put (put m 115 (.path k)) 110 (.called k)) 46 (.called k)) y) := by
  obtain ⟨f, hf⟩ : ∃ f, k.f = f := ⟨_, rfl⟩
  obtain ⟨pv, hpv⟩ : ∃ v, Value.func (.func 169) #[] #[rP x.heap.size, rP (x.heap.size + 1)] = v := ⟨_, rfl⟩
  obtain ⟨cv, hcv⟩ : ∃ v, Value.func (.func 171) #[] #[rP x.heap.size, rP (x.heap.size + 1 + 1)] = v := ⟨_, rfl⟩
  obtain ⟨x3, hx3⟩ : ∃ z, ((x.alloc (.cells #[rP r] 61)).alloc (.cells #[.func (.func f) #[] #[]] 65)).alloc (.cells #[pv] 62) = z := ⟨_, rfl⟩
  have hl := h.lt
  have hB3 : Bld w0 r kb m x3 := by rw [← hx3]; exact ((h.alloc _).alloc _).alloc _
  have hn : w0.heap.size ≤ x.heap.size := by obtain ⟨_, _, _, hb, _⟩ := h; exact hb.size
  have b1 : Box x3 (PB w0 kb) x.heap.size r := ⟨⟨hn, by omega⟩, by rw [← hx3]; exact (Below.heap_alloc _ _ _ (by simp; omega)).trans ((Below.heap_alloc _ _ _ (by simp)).trans (heap_alloc_new _ _))⟩
  have b2 : FBox x3 (PB w0 kb) (x.heap.size + 1) k := ⟨⟨by omega, by omega⟩, by
    rw [← hx3, hf]
    refine (Below.heap_alloc _ _ _ (by simp)).trans ?_
    have := heap_alloc_new (x.alloc (.cells #[rP r] 61)) (.cells #[.func (.func f) #[] #[]] 65)
    rwa [World.size_alloc] at this⟩
  have b3 : x3.heap[x.heap.size + 1 + 1]? = some (.cells #[pv] 62 (0, 0)) := by
    rw [← hx3]
    have := heap_alloc_new ((x.alloc (.cells #[rP r] 61)).alloc (.cells #[.func (.func f) #[] #[]] 65)) (.cells #[pv] 62)
    rwa [World.size_alloc, World.size_alloc] at this
  have hp3 : HdAt x3 (PB w0 kb) r pv (.path k) := ⟨_, _, hpv.symm, b1, b2⟩
  have hc3 : HdAt x3 (PB w0 kb) r cv (.called k) := ⟨_, _, _, hcv.symm, b1, ⟨by omega, by omega⟩, b3, hp3⟩
  obtain ⟨x4, hr4, hB4, hF4⟩ := hB3.step 115 pv _ hp3
  obtain ⟨x5, hr5, hB5, hF5⟩ := hB4.step 110 cv _ (Bld.keepHd hc3 hF4)
  obtain ⟨x6, hr6, hB6, hF6⟩ := hB5.step 46 cv _ (Bld.keepHd (Bld.keepHd hc3 hF4) hF5)
  rw [kE115] at hr4
  rw [kE110] at hr5
  rw [kE46] at hr6
  have HB6 := Lib.hid hB6
  unfold rP at hpv hcv hx3 ⊢
  rw [hf]
  clear hB3 b1 b2 b3 hp3 hc3 hB4 hB5 hB6 hF4 hF5 hF6 h hf
  subst hpv hcv hx3
  go_enter Tryz.func154, Tryz.ntmps154
  go_wp2_with fail
  go_ret
  exact ⟨rfl, HB6⟩
theorem Bld.spec_call {w0 x : World} {r kb : Nat} {m : List (UInt8 × Hd)} (h : Bld w0 r kb m x) (k : Mk) : Calls Tryz.prog 154 #[.pointer (some ⟨r, 0, none⟩), .func (.func k.f) #[] #[], .map (some kb)] x fun e y => e = .returned (.map (some kb)) ∧ Hid (Bld w0 r kb (put (put (put m 115 (.path k)) 110 (.called k)) 46 (.called k)) y) := spec_any w0 x r kb m k h
set_option maxRecDepth 100000 in
set_option maxHeartbeats 8000000 in
theorem imports_any (w : World) (r : Nat) : Calls Tryz.prog 127 #[rP r] w (MkPost w r .imports) := by
  have hmm := @run_makeMap Tryz.prog
  unfold rP
  have HB0 : Hid (Bld w r w.heap.size [] (w.alloc (.map #[] 0))) := Lib.hid (Bld.made (Below.refl _ _))
  go_enter Tryz.func127, Tryz.ntmps127
  go_wp2_with fail
  refine (HB0.out.to_call .inside).mono ?_
  rintro e y1 ⟨v1, rfl, HB1, HH1⟩
  obtain ⟨y2, hr, hB2, _⟩ := HB1.out.step 40 v1 _ HH1.out
  rw [kE40] at hr
  have HB2 := Lib.hid hB2
  clear hB2 HB1 HH1 HB0
  go_wp2_with fail
  refine (HB2.out.spec_call .ended).mono ?_
  rintro e y3 ⟨rfl, HB3⟩
  clear HB2
  go_wp2_with fail
  refine HB3.out.want_call.mono ?_
  rintro e y6 ⟨v6, rfl, HB6, HW6⟩
  go_wp2_with fail
  go_ret
  exact mk_want rfl (by decide) HB6.out HW6.out
set_option maxRecDepth 100000 in
set_option maxHeartbeats 8000000 in
theorem inside_any (w : World) (r : Nat) : Calls Tryz.prog 155 #[rP r] w (MkPost w r .inside) := by
  have hmm := @run_makeMap Tryz.prog
  unfold rP
  have hB0 : Bld w r w.heap.size [] (w.alloc (.map #[] 0)) := Bld.made (Below.refl _ _)
  obtain ⟨x1, hr1, hB1, _⟩ := hB0.step 59 _ .stay rfl
  rw [kE59] at hr1
  obtain ⟨x2, hr2, hB2, _⟩ := hB1.step 99 _ .stay rfl
  rw [kE99] at hr2
  have HB2 := Lib.hid hB2
  clear hB2 hB1 hB0
  go_enter Tryz.func155, Tryz.ntmps155
  go_wp2_with fail
  refine (HB2.out.to_call .ended).mono ?_
  rintro e y4 ⟨v4, rfl, HB4, HH4⟩
  obtain ⟨y5, hr5, hB5, _⟩ := HB4.out.step 41 v4 _ HH4.out
  rw [kE41] at hr5
  have HB5 := Lib.hid hB5
  clear HB4 HH4 HB2 hB5
  go_wp2_with fail
  refine (HB5.out.spec_call .behind).mono ?_
  rintro e y3 ⟨rfl, HB3⟩
  clear HB5
  go_wp2_with fail
  refine HB3.out.want_call.mono ?_
  rintro e y6 ⟨v6, rfl, HB6, HW6⟩
  go_wp2_with fail
  go_ret
  exact mk_want rfl (by decide) HB6.out HW6.out
set_option maxRecDepth 100000 in
set_option maxHeartbeats 8000000 in
theorem begin_any (w : World) (r : Nat) : Calls Tryz.prog 30 #[rP r] w fun e w' => ∃ v, e = .returned v ∧ Below w.heap.size w w' ∧ StepAt w' (fun k => w.heap.size ≤ k) r .begin_ v := by
  have hmm := @run_makeMap Tryz.prog
  have hB0 : Bld w r (w.heap.size + 1) [] ((w.alloc (.cells #[rP r] 61)).alloc (.map #[] 0)) := by
    have := Bld.made (r := r) ((Below.refl w.heap.size w).alloc (Nat.le_refl _) (.cells #[rP r] 61))
    rwa [World.size_alloc] at this
  have b0 : Box ((w.alloc (.cells #[rP r] 61)).alloc (.map #[] 0)) (PB w (w.heap.size + 1)) w.heap.size r := ⟨⟨Nat.le_refl _, by omega⟩, (Below.heap_alloc _ _ _ (by simp)).trans (heap_alloc_new _ _)⟩
  have hb1 : HdAt _ (PB w (w.heap.size + 1)) r (.func (.func 58) #[] #[rP w.heap.size]) .b1 := ⟨_, rfl, b0⟩
  have hb2 : HdAt _ (PB w (w.heap.size + 1)) r (.func (.func 62) #[] #[rP w.heap.size]) .b2 := ⟨_, rfl, b0⟩
  obtain ⟨x1, hr1, hB1, hF1⟩ := hB0.step 59 _ .stay rfl
  obtain ⟨x2, hr2, hB2, hF2⟩ := hB1.step 110 _ _ (Bld.keepHd hb1 hF1)
  obtain ⟨x3, hr3, hB3, hF3⟩ := hB2.step 99 _ _ (Bld.keepHd (Bld.keepHd hb2 hF1) hF2)
  rw [kE59] at hr1
  rw [kE110] at hr2
  rw [kE99] at hr3
  have HB3 := Lib.hid hB3
  clear hB3 hB2 hB1 hB0 b0 hb1 hb2 hF1 hF2 hF3
  unfold rP at hr1 hr2 hr3 ⊢
  go_enter Tryz.func30, Tryz.ntmps30
  go_wp2_with fail
  refine HB3.out.want_call.mono ?_
  rintro e y6 ⟨v6, rfl, HB6, HW6⟩
  go_wp2_with fail
  go_ret
  exact ⟨_, rfl, HB6.out, HW6.out⟩
end Go.Proofs.YtniphdhbgebedaaGreatDoor
