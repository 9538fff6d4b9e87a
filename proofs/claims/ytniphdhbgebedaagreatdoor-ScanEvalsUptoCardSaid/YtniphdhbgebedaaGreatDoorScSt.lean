/-
  The reader's steps in memory: closures, and the maps that hold them.
-/
import Derived.Test.YtniphdhbgebedaaGreatDoorScNx
namespace Go.Proofs.YtniphdhbgebedaaGreatDoor
open Go.RowKit Go.Maps

set_option linter.unusedSimpArgs false

attribute [local go_sem] lt1 lt2 lt3 lt4 lt5 lt6

def rP (r : Nat) : Value := .pointer (some ⟨r, 0, none⟩)
/-- what makes a step -/
inductive Mk where
  | ended | between | done | imports | inside | behind
deriving DecidableEq
def Mk.f : Mk → Nat
  | .ended => 61
  | .between => 85
  | .done => 86
  | .imports => 127
  | .inside => 155
  | .behind => 172
def mkSt : Mk → Option St
  | .ended => some .ended
  | .between => some .between
  | .done => none
  | .imports => some .imports
  | .inside => some .inside
  | .behind => some .behind
/-- what is done with a token -/
inductive Hd where
  | stay | to (m : Mk) | b1 | b2 | b11 | path (m : Mk) | called (m : Mk)
deriving DecidableEq
def Box (w : World) (P : Nat → Prop) (p r : Nat) : Prop := P p ∧ w.heap[p]? = some (.cells #[rP r] 61 (0, 0))
def FBox (w : World) (P : Nat → Prop) (q : Nat) (m : Mk) : Prop := P q ∧ w.heap[q]? = some (.cells #[.func (.func m.f) #[] #[]] 65 (0, 0))
def PathAt (w : World) (P : Nat → Prop) (r : Nat) (v : Value) (m : Mk) : Prop := ∃ p q, v = .func (.func 169) #[] #[rP p, rP q] ∧ Box w P p r ∧ FBox w P q m
def HdAt (w : World) (P : Nat → Prop) (r : Nat) (v : Value) : Hd → Prop
  | .stay => v = .func (.func 57) #[] #[]
  | .to m => ∃ p q, v = .func (.func 125) #[] #[rP q, rP p] ∧ FBox w P q m ∧ Box w P p r
  | .b1 => ∃ p, v = .func (.func 58) #[] #[rP p] ∧ Box w P p r
  | .b2 => ∃ p, v = .func (.func 62) #[] #[rP p] ∧ Box w P p r
  | .b11 => ∃ p, v = .func (.func 60) #[] #[rP p] ∧ Box w P p r
  | .path m => PathAt w P r v m
  | .called m => ∃ p c v', v = .func (.func 171) #[] #[rP p, rP c] ∧ Box w P p r ∧ P c ∧ w.heap[c]? = some (.cells #[v'] 62 (0, 0)) ∧ PathAt w P r v' m
/-- what P holds of lies as it lay -/
def KeepP (P : Nat → Prop) (w w' : World) : Prop := ∀ k, P k → k < w.heap.size → w'.heap[k]? = w.heap[k]?
theorem KeepP.of_fr {S : List Nat} {w w' : World} {P : Nat → Prop} (h : Fr S w w') (hS : ∀ k, P k → k ∉ S) : KeepP P w w' := fun k hk hl => h.block k hl (hS k hk)
theorem KeepP.of_below {w w' : World} {P : Nat → Prop} (h : Below w.heap.size w w') : KeepP P w w' := fun k _ hl => h.block k hl
theorem KeepP.alloc (P : Nat → Prop) (w : World) (o : Obj) : KeepP P w (w.alloc o) := fun _ _ hl => Below.heap_alloc _ _ _ hl
theorem KeepP.at_ {P : Nat → Prop} {w w' : World} {k : Nat} {o : Obj} (h : KeepP P w w') (hk : P k) (ho : w.heap[k]? = some o) : w'.heap[k]? = some o := (h k hk (lt_of_heap ho)).trans ho
theorem Box.keep {w w' : World} {P P' : Nat → Prop} {p r : Nat} (h : Box w P p r) (hk : KeepP P w w') (hP : ∀ k, k < w.heap.size → P k → P' k) : Box w' P' p r := ⟨hP _ (lt_of_heap h.2) h.1, hk.at_ h.1 h.2⟩
theorem FBox.keep {w w' : World} {P P' : Nat → Prop} {p : Nat} {m : Mk} (h : FBox w P p m) (hk : KeepP P w w') (hP : ∀ k, k < w.heap.size → P k → P' k) : FBox w' P' p m := ⟨hP _ (lt_of_heap h.2) h.1, hk.at_ h.1 h.2⟩
theorem PathAt.keep {w w' : World} {P P' : Nat → Prop} {r : Nat} {v : Value} {m : Mk} (h : PathAt w P r v m) (hk : KeepP P w w') (hP : ∀ k, k < w.heap.size → P k → P' k) : PathAt w' P' r v m := by
  obtain ⟨p, q, h1, h2, h3⟩ := h
  exact ⟨p, q, h1, h2.keep hk hP, h3.keep hk hP⟩
theorem HdAt.keep {w w' : World} {P P' : Nat → Prop} {r : Nat} {v : Value} {d : Hd} (h : HdAt w P r v d) (hk : KeepP P w w') (hP : ∀ k, k < w.heap.size → P k → P' k) : HdAt w' P' r v d := by
  cases d with
  | stay => exact h
  | to m => obtain ⟨p, q, h1, h2, h3⟩ := h; exact ⟨p, q, h1, h2.keep hk hP, h3.keep hk hP⟩
  | b1 => obtain ⟨p, h1, h2⟩ := h; exact ⟨p, h1, h2.keep hk hP⟩
  | b2 => obtain ⟨p, h1, h2⟩ := h; exact ⟨p, h1, h2.keep hk hP⟩
  | b11 => obtain ⟨p, h1, h2⟩ := h; exact ⟨p, h1, h2.keep hk hP⟩
  | path m => exact PathAt.keep h hk hP
  | called m => obtain ⟨p, c, v', h1, h2, h3, h4, h5⟩ := h; exact ⟨p, c, v', h1, h2.keep hk hP, hP _ (lt_of_heap h4) h3, hk.at_ h3 h4, h5.keep hk hP⟩
def kE (k : UInt8) : Value := .int .u8 (k.toNat : Int)
theorem kE_inj (a b : UInt8) (h : kE a = kE b) : a = b := by
  unfold kE at h
  have : (a.toNat : Int) = b.toNat := by simpa using h
  exact UInt8.toNat_inj.1 (by omega)
theorem u8_law : Keyed Tryz.prog 5 := int_keyed Tryz.underlying5
theorem u8_key (k : UInt8) : keyOf Tryz.prog 5 (kE k) = some (.int .u8 (k.toNat : Int)) := keyOf_int_mk Tryz.underlying5 (WalkArith.wf_u8 (by have := k.toNat_lt; omega))
abbrev HMap (w : World) (P : Nat → Prop) (r : Nat) (o : Obj) (m : List (UInt8 × Hd)) : Prop := TMap Tryz.prog 5 o kE (fun v h => HdAt w P r v h) m
def WantAt (w : World) (P : Nat → Prop) (r : Nat) (m : List (UInt8 × Hd)) (v : Value) : Prop := ∃ pm pr g o, v = .func (.func 83) #[] #[rP pm, rP pr] ∧ Box w P pr r ∧ P pm ∧ w.heap[pm]? = some (.cells #[.map (some g)] 90 (0, 0)) ∧ P g ∧ w.heap[g]? = some o ∧ HMap w P r o m
theorem WantAt.keep {w w' : World} {P P' : Nat → Prop} {r : Nat} {v : Value} {m : List (UInt8 × Hd)} (h : WantAt w P r m v) (hk : KeepP P w w') (hP : ∀ k, k < w.heap.size → P k → P' k) : WantAt w' P' r m v := by
  obtain ⟨pm, pr, g, o, h1, h2, h3, h4, h5, h6, h7⟩ := h
  exact ⟨pm, pr, g, o, h1, h2.keep hk hP, hP _ (lt_of_heap h4) h3, hk.at_ h3 h4, hP _ (lt_of_heap h6) h5, hk.at_ h5 h6, h7.mono fun _ _ h => h.keep hk hP⟩
def tblS : St → List (UInt8 × Hd)
  | .begin_ => [(59, .stay), (110, .b1), (99, .b2)]
  | .pkg => [(110, .b11)]
  | .ended => [(59, .to .between), (69, .to .done), (99, .stay)]
  | .between => []
  | .imports => [(40, .to .inside), (115, .path .ended), (110, .called .ended), (46, .called .ended)]
  | .inside => [(59, .stay), (99, .stay), (41, .to .ended), (115, .path .behind), (110, .called .behind), (46, .called .behind)]
  | .behind => [(59, .to .inside), (99, .stay), (41, .to .ended)]
  | .calledE => [(115, .path .ended)]
  | .calledB => [(115, .path .behind)]
/-- a closure that is a step of the reader at r -/
def StepAt (w : World) (P : Nat → Prop) (r : Nat) (st : St) (v : Value) : Prop :=
  if st = .between then ∃ p, v = .func (.func 126) #[] #[rP p] ∧ Box w P p r else WantAt w P r (tblS st) v
theorem StepAt.keep {w w' : World} {P P' : Nat → Prop} {r : Nat} {v : Value} {st : St} (h : StepAt w P r st v) (hk : KeepP P w w') (hP : ∀ k, k < w.heap.size → P k → P' k) : StepAt w' P' r st v := by
  unfold StepAt at h ⊢
  split
  · rename_i he
    rw [if_pos he] at h
    obtain ⟨p, h1, h2⟩ := h
    exact ⟨p, h1, h2.keep hk hP⟩
  · rename_i he
    rw [if_neg he] at h
    exact h.keep hk hP
def MkAt (w : World) (P : Nat → Prop) (r : Nat) (m : Mk) (v : Value) : Prop := match mkSt m with
  | none => v = .nilFunc
  | some st => StepAt w P r st v
def MkPost (w : World) (r : Nat) (m : Mk) (e : Ending) (w' : World) : Prop := ∃ v, e = .returned v ∧ Below w.heap.size w w' ∧ MkAt w' (fun k => w.heap.size ≤ k) r m v
/-- a map of steps that is being made in a call that began at w0 -/
def PB (w0 : World) (kb : Nat) (k : Nat) : Prop := w0.heap.size ≤ k ∧ k ≠ kb
def Bld (w0 : World) (r kb : Nat) (m : List (UInt8 × Hd)) (x : World) : Prop := ∃ o, x.heap[kb]? = some o ∧ HMap x (PB w0 kb) r o m ∧ Below w0.heap.size w0 x ∧ w0.heap.size ≤ kb
theorem Bld.made {w0 x : World} {r : Nat} (h : Below w0.heap.size w0 x) : Bld w0 r x.heap.size [] (x.alloc (.map #[] 0)) :=
  ⟨_, heap_alloc_new _ _, TMap.made _ _ _ _, h.alloc h.size _, h.size⟩
theorem Bld.alloc {w0 x : World} {r kb : Nat} {m : List (UInt8 × Hd)} (h : Bld w0 r kb m x) (o : Obj) : Bld w0 r kb m (x.alloc o) := by
  obtain ⟨ob, h1, h2, h3, h4⟩ := h
  exact ⟨ob, (Below.heap_alloc _ _ _ (lt_of_heap h1)).trans h1, h2.mono fun _ _ h => h.keep (KeepP.alloc _ _ _) (fun _ _ h => h), h3.alloc h3.size _, h4⟩
theorem Bld.lt {w0 x : World} {r kb : Nat} {m : List (UInt8 × Hd)} (h : Bld w0 r kb m x) : kb < x.heap.size := by
  obtain ⟨ob, h1, _⟩ := h
  exact lt_of_heap h1
theorem Bld.step {w0 x : World} {r kb : Nat} {m : List (UInt8 × Hd)} (h : Bld w0 r kb m x) (k : UInt8) (fv : Value) (d : Hd) (hd : HdAt x (PB w0 kb) r fv d) :
    ∃ x', (Instr.mapUpdate 90 (.map (some kb)) (kE k) fv).run Tryz.prog x = .ok () x' ∧ Bld w0 r kb (put m k d) x' ∧ Fr [kb] x x' := by
  obtain ⟨o, hk, T, hB, h0⟩ := h
  obtain ⟨o', hrun, hT⟩ := T.update u8_law Tryz.underlying90 kE_inj (u8_key k) fv
  have hF := Fr.setBlock [kb] x kb o' (by simp)
  have hK : KeepP (PB w0 kb) x (ChangeMaps.setBlock x kb o') := KeepP.of_fr hF (fun j hj => by simp; exact hj.2)
  refine ⟨_, hrun x kb hk, ⟨o', setBlock_same (lt_of_heap hk), hT _ _ (fun v y h => h.keep hK fun _ _ h => h) (hd.keep hK fun _ _ h => h), ?_, h0⟩, hF⟩
  exact hB.trans (hF.below hB.size (by simp; exact h0))
/-! ### what makes them -/
theorem want_any (w : World) (r kb : Nat) : Calls Tryz.prog 56 #[rP r, .map (some kb)] w fun e w' => e = .returned (.func (.func 83) #[] #[rP (w.heap.size + 1), rP w.heap.size]) ∧ (w.alloc (.cells #[rP r] 61)).alloc (.cells #[.map (some kb)] 90) = w' := by
  unfold rP
  go_enter Tryz.func56, Tryz.ntmps56
  go_wp2
  go_ret
  exact ⟨rfl, rfl⟩
theorem to_any (w : World) (r f : Nat) : Calls Tryz.prog 84 #[rP r, .func (.func f) #[] #[]] w fun e w' => e = .returned (.func (.func 125) #[] #[rP (w.heap.size + 1), rP w.heap.size]) ∧ (w.alloc (.cells #[rP r] 61)).alloc (.cells #[.func (.func f) #[] #[]] 65) = w' := by
  unfold rP
  go_enter Tryz.func84, Tryz.ntmps84
  go_wp2
  go_ret
  exact ⟨rfl, rfl⟩
theorem done_any (w : World) (r : Nat) : Calls Tryz.prog 86 #[rP r] w (MkPost w r .done) := by
  unfold rP
  go_enter Tryz.func86, Tryz.ntmps86
  go_wp2
  go_ret
  exact ⟨.nilFunc, rfl, Below.refl _ _, rfl⟩
theorem between_any (w : World) (r : Nat) : Calls Tryz.prog 85 #[rP r] w (MkPost w r .between) := by
  unfold rP
  go_enter Tryz.func85, Tryz.ntmps85
  go_wp2
  go_ret
  refine ⟨.func (.func 126) #[] #[rP w.heap.size], rfl, (Below.refl w.heap.size w).alloc (Nat.le_refl _) _, ?_⟩
  exact ⟨w.heap.size, rfl, Nat.le_refl _, heap_alloc_new _ _⟩
theorem Bld.hd_to {w0 x : World} {r kb : Nat} {m : List (UInt8 × Hd)} (h : Bld w0 r kb m x) (k : Mk) : HdAt ((x.alloc (.cells #[rP r] 61)).alloc (.cells #[.func (.func k.f) #[] #[]] 65)) (PB w0 kb) r (.func (.func 125) #[] #[rP (x.heap.size + 1), rP x.heap.size]) (.to k) := by
  have hl := h.lt
  obtain ⟨o, _, _, hB, h0⟩ := h
  have hs := hB.size
  refine ⟨x.heap.size, x.heap.size + 1, rfl, ⟨⟨by omega, by omega⟩, ?_⟩, ⟨⟨by omega, by omega⟩, ?_⟩⟩
  · have := heap_alloc_new (x.alloc (.cells #[rP r] 61)) (.cells #[.func (.func k.f) #[] #[]] 65)
    rwa [World.size_alloc] at this
  · exact (Below.heap_alloc _ _ _ (by simp)).trans (heap_alloc_new _ _)
theorem Bld.want {w0 x : World} {r kb : Nat} {m : List (UInt8 × Hd)} (h : Bld w0 r kb m x) : WantAt ((x.alloc (.cells #[rP r] 61)).alloc (.cells #[.map (some kb)] 90)) (fun k => w0.heap.size ≤ k) r m (.func (.func 83) #[] #[rP (x.heap.size + 1), rP x.heap.size]) ∧ Below w0.heap.size w0 ((x.alloc (.cells #[rP r] 61)).alloc (.cells #[.map (some kb)] 90)) := by
  have hl := h.lt
  obtain ⟨o, hk, T, hB, h0⟩ := h
  have hs := hB.size
  have hB2 := (hB.alloc hs (.cells #[rP r] 61))
  have hB3 := hB2.alloc hB2.size (.cells #[.map (some kb)] 90)
  have hn := heap_alloc_new (x.alloc (.cells #[rP r] 61)) (.cells #[.map (some kb)] 90)
  rw [World.size_alloc] at hn
  have K1 := KeepP.alloc (PB w0 kb) x (.cells #[rP r] 61)
  have K2 := KeepP.alloc (PB w0 kb) (x.alloc (.cells #[rP r] 61)) (.cells #[.map (some kb)] 90)
  refine ⟨⟨x.heap.size + 1, x.heap.size, kb, o, rfl, ⟨by omega, (Below.heap_alloc _ _ _ (by simp)).trans (heap_alloc_new _ _)⟩, by omega, hn, h0, ?_, ?_⟩, hB3⟩
  · exact (Below.heap_alloc _ _ _ (by simp; omega)).trans ((Below.heap_alloc _ _ _ hl).trans hk)
  · exact T.mono fun _ _ h => (h.keep K1 fun _ _ h => h).keep K2 fun _ _ h => h.1
/-- a step that goes over is made, while a map is being filled -/
theorem Bld.to_call {w0 x : World} {r kb : Nat} {m : List (UInt8 × Hd)} (h : Bld w0 r kb m x) (k : Mk) : Calls Tryz.prog 84 #[.pointer (some ⟨r, 0, none⟩), .func (.func k.f) #[] #[]] x fun e y => ∃ v, e = .returned v ∧ Hid (Bld w0 r kb m y) ∧ Hid (HdAt y (PB w0 kb) r v (.to k)) := by
  refine (to_any x r k.f).mono ?_
  rintro e y ⟨rfl, rfl⟩
  exact ⟨_, rfl, Lib.hid ((h.alloc _).alloc _), Lib.hid (h.hd_to k)⟩
theorem Bld.want_call {w0 x : World} {r kb : Nat} {m : List (UInt8 × Hd)} (h : Bld w0 r kb m x) : Calls Tryz.prog 56 #[.pointer (some ⟨r, 0, none⟩), .map (some kb)] x fun e y => ∃ v, e = .returned v ∧ Hid (Below w0.heap.size w0 y) ∧ Hid (WantAt y (fun k => w0.heap.size ≤ k) r m v) := by
  refine (want_any x r kb).mono ?_
  rintro e y ⟨rfl, rfl⟩
  exact ⟨_, rfl, Lib.hid h.want.2, Lib.hid h.want.1⟩
theorem mk_want {w y : World} {r : Nat} {k : Mk} {st : St} {v : Value} (hs : mkSt k = some st) (hne : st ≠ .between) (hB : Below w.heap.size w y) (hW : WantAt y (fun k => w.heap.size ≤ k) r (tblS st) v) : MkPost w r k (.returned v) y := by
  refine ⟨v, rfl, hB, ?_⟩
  unfold MkAt
  rw [hs]
  show StepAt _ _ _ _ _
  unfold StepAt
  rw [if_neg hne]
  exact hW
set_option maxRecDepth 100000 in
set_option maxHeartbeats 8000000 in
theorem ended_any (w : World) (r : Nat) : Calls Tryz.prog 61 #[rP r] w (MkPost w r .ended) := by
  have hmm := @run_makeMap Tryz.prog
  unfold rP
  have HB0 : Hid (Bld w r w.heap.size [] (w.alloc (.map #[] 0))) := Lib.hid (Bld.made (Below.refl _ _))
  go_enter Tryz.func61, Tryz.ntmps61
  go_wp2_with fail
  refine (HB0.out.to_call .between).mono ?_
  rintro e y1 ⟨v1, rfl, HB1, HH1⟩
  obtain ⟨y2, hr, hB2, _⟩ := HB1.out.step 59 v1 _ HH1.out
  rw [show kE 59 = .int .u8 59 from rfl] at hr
  have HB2 := Lib.hid hB2
  clear hB2 HB1 HH1 HB0
  go_wp2_with fail
  refine (HB2.out.to_call .done).mono ?_
  rintro e y3 ⟨v3, rfl, HB3, HH3⟩
  obtain ⟨y4, hr, hB4, _⟩ := HB3.out.step 69 v3 _ HH3.out
  rw [show kE 69 = .int .u8 69 from rfl] at hr
  obtain ⟨y5, hr5, hB5, _⟩ := hB4.step 99 _ .stay rfl
  rw [show kE 99 = .int .u8 99 from rfl] at hr5
  have HB5 := Lib.hid hB5
  clear hB4 HB3 HH3 HB2 hB5
  go_wp2_with fail
  refine HB5.out.want_call.mono ?_
  rintro e y6 ⟨v6, rfl, HB6, HW6⟩
  go_wp2_with fail
  go_ret
  exact mk_want rfl (by decide) HB6.out HW6.out
end Go.Proofs.YtniphdhbgebedaaGreatDoor
